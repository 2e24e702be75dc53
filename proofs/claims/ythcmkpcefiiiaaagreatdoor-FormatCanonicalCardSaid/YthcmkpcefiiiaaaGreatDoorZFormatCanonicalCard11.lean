/-
  Texts put together: Td.
-/
import Derived.Test.YthcmkpcefiiiaaaGreatDoorZFormatCanonicalCard10
set_option linter.unusedVariables false
/-
 Walks: a box is halved.
-/
namespace Go.Proofs.Ng
open Go.RowKit
/-- What Halve answers. -/
def HalvP (b : Fm.BoxD) (j : Int) (W : World) (e : Ending) (W' : World) : Prop := (match Fm.halve b j with
 | some (x, y) => ∃ ax ay cx cy, e = .returned (.tuple #[.slice (some ax) b.length cx, .slice (some ay) b.length cy, .bool true]) ∧ x.length = b.length ∧ y.length = b.length ∧ New W.heap.size W' (fun X => Sl X (some ax) 2 (ivs x) ∧ Sl X (some ay) 2 (ivs y))
 | none => e = .returned (.tuple #[.slice none 0 0, .slice none 0 0, .bool false])) ∧ Below W.heap.size W W'
theorem HalvP.no {b : Fm.BoxD} {j : Int} {W W' : World} (h : Fm.halve b j = none) (hb : Below W.heap.size W W') : HalvP b j W (.returned (.tuple #[.slice none 0 0, .slice none 0 0, .bool false])) W' := by
 unfold HalvP; rw [h]; exact ⟨rfl, hb⟩
theorem halve_a {b : Fm.BoxD} {j : Int} (h : b.all Fm.validI = false) : Fm.halve b j = none := by
 unfold Fm.halve; rw [if_neg (by rw [h]; simp)]
theorem halve_b {b : Fm.BoxD} {j : Int} (h : ¬ (0 ≤ j ∧ j < (b.length : Int))) : Fm.halve b j = none := by
 unfold Fm.halve; rw [if_neg (by omega)]
theorem halve_d {b : Fm.BoxD} {j : Nat} {v : Int × Int} (h : b[j]? = some v) (h2 : ¬ 2 ≤ v.2 - v.1) : Fm.halve b (j : Nat) = none := by
 unfold Fm.halve
 split
 ·rw [show ((j : Int)).toNat = j from rfl, h]
  simp only [if_neg h2]
 ·rfl
theorem halve_e {b : Fm.BoxD} {j : Nat} {v : Int × Int} (h : b[j]? = some v) (h2 : 2 ≤ v.2 - v.1) (h3 : b.all Fm.validI = true) : Fm.halve b (j : Nat) = some (b.set j (v.1, (v.1 + v.2) / 2), b.set j ((v.1 + v.2) / 2, v.2)) := by
 have hj := (List.getElem?_eq_some_iff.1 h).1
 unfold Fm.halve
 rw [if_pos ⟨by omega, hj, h3⟩, show ((j : Int)).toNat = j from rfl, h]
 simp only [if_pos h2, Fm.setI, h]
theorem ivs_len (b : Fm.BoxD) : (ivs b).length = b.length := by simp [ivs]
theorem ivs_two (b : Fm.BoxD) : ∀ r ∈ ivs b, r.length = 2 := by intro r hr; simp [ivs] at hr; obtain ⟨x, y, _, rfl⟩ := hr; rfl
theorem ivs_flen : ∀ b : Fm.BoxD, (ivs b).flatten.length = b.length * 2
 | [] => rfl
 | a :: r => by
  have := ivs_flen r
  show (iv2 a ++ (ivs r).flatten).length = (r.length + 1) * 2
  rw [List.length_append, this]
  show 2 + _ = _
  omega
theorem ivs_cell (b : Fm.BoxD) : ∀ u ∈ (ivs b).flatten, u.oneCell' = true := by
 intro u hu
 simp only [ivs, List.mem_flatten, List.mem_map] at hu
 obtain ⟨l, ⟨x, _, rfl⟩, h⟩ := hu
 simp [iv2] at h
 rcases h with rfl | rfl <;> rfl
theorem iv_news {W : World} {g : Nat} : ∀ {l : Fm.BoxD} {off : Nat}, RowsAt W g off 2 (ivs l) → ∀ j u, (ivs l).flatten[j]? = some u → W.cell? ⟨g, off + j, none⟩ = some u
 | [], _, _, j, u, hu => by simp [ivs] at hu
 | a :: r, off, h, 0, u, hu => by
  have e : u = .int .i64 a.1 := by simp [ivs, iv2] at hu; exact hu.symm
  subst e
  exact h.c 0 (iv2 a) rfl 0 _ rfl
 | a :: r, off, h, 1, u, hu => by
  have e : u = .int .i64 a.2 := by simp [ivs, iv2] at hu; exact hu.symm
  subst e
  exact h.c 0 (iv2 a) rfl 1 _ rfl
 | a :: r, off, h, j + 2, u, hu => by
  have h2 : RowsAt W g (off + 2) 2 (ivs r) := ⟨h.lt, fun i q hq k v hv => by
   have := h.c (i + 1) q hq k v hv
   rw [show off + ((i + 1) * 2 + k) = off + 2 + (i * 2 + k) by omega] at this
   exact this⟩
  have := iv_news h2 j u (by simpa [ivs, iv2] using hu)
  rw [show off + 2 + j = off + (j + 2) by omega] at this
  exact this
theorem iv_addr {W : World} {g off : Nat} {l : Fm.BoxD} (h : RowsAt W g off 2 (ivs l)) : ∀ j u, (ivs l).flatten[j]? = some u → W.cell? ((⟨g, off, none⟩ : Addr).add j) = some u := by
 intro j u hu
 have := iv_news h j u hu
 rw [← this]
 congr 1
 unfold Addr.add
 split <;> simp_all
theorem ivs_set1 : ∀ {b : Fm.BoxD} {j : Nat} {v : Int × Int} (c : Int), b[j]? = some v → (ivs (b.set j (v.1, c))).flatten = (ivs b).flatten.set (j * 2 + 1) (.int .i64 c)
 | [], _, _, _, h => by simp at h
 | a :: r, 0, v, c, h => by
  simp at h
  subst h
  rfl
 | a :: r, j + 1, v, c, h => by
  have ih := ivs_set1 (b := r) (j := j) (v := v) c (by simpa using h)
  show iv2 a ++ (ivs (r.set j (v.1, c))).flatten = List.set (iv2 a ++ (ivs r).flatten) ((j + 1) * 2 + 1) _
  rw [ih, show (j + 1) * 2 + 1 = j * 2 + 1 + 1 + 1 by omega]
  rfl
theorem ivs_set0 : ∀ {b : Fm.BoxD} {j : Nat} {v : Int × Int} (c : Int), b[j]? = some v → (ivs (b.set j (c, v.2))).flatten = (ivs b).flatten.set (j * 2) (.int .i64 c)
 | [], _, _, _, h => by simp at h
 | a :: r, 0, v, c, h => by
  simp at h
  subst h
  rfl
 | a :: r, j + 1, v, c, h => by
  have ih := ivs_set0 (b := r) (j := j) (v := v) c (by simpa using h)
  show iv2 a ++ (ivs (r.set j (c, v.2))).flatten = List.set (iv2 a ++ (ivs r).flatten) ((j + 1) * 2) _
  rw [ih, show (j + 1) * 2 = j * 2 + 1 + 1 by omega]
  rfl
theorem own_ivs {W : World} {base g n c lo : Nat} {x : Fm.BoxD} (h : W.ownsRow base 79 2 (.slice (some ⟨g, 0, none⟩) n c) n (ivs x).flatten) (hn : x.length = n) (hl : lo ≤ base) : New lo W (fun X => Sl X (some ⟨g, 0, none⟩) 2 (ivs x)) := by
 intro W' hW'
 have hO := own_blk (W' := W') h fun k hk hlt hb => hW' k ⟨Nat.le_trans hl hb, hlt⟩
 rw [← hn, ← ivs_len x] at hO
 obtain ⟨oa, cap, e, hs⟩ := own_rows (ivs_two x) hO
 injection e with e _ _
 rw [e]; exact hs
theorem info79 : (Tryz.prog.info? 79).map (fun i => (i.zero, i.size, i.bytes)) = some (some (.agg #[.int .i64 0, .int .i64 0]), 2, 16) := by kernel_rfl
theorem under33 : Tryz.prog.underlying 33 = some (.slice 79) := by kernel_rfl
theorem nil_grow {W W' : World} (h : W.grownBy W' (Value.slice none 0 0).ownBlock) : Below W.heap.size W W' := grown_below (e := 79) (size := 2) (World.ownsRow_nil _ _ _ _) h (Nat.le_refl _)
theorem nil_at {g H : Nat} (h : (Value.slice none 0 0).ownBlock = some g ∨ g = H) : g = H := by
 rcases h with e | e
 ·cases e
 ·exact e
/-- The ways out with two boxes. -/
theorem HalvP.yes {b : Fm.BoxD} {j : Int} {W W' : World} {x y : Fm.BoxD} {g1 g2 c1 c2 n b1 b2 : Nat} (h : Fm.halve b j = some (x, y)) (hn : b.length = n) (hx : x.length = n) (hy : y.length = n) (o1 : W'.ownsRow b1 79 2 (.slice (some ⟨g1, 0, none⟩) n c1) n (ivs x).flatten) (o2 : W'.ownsRow b2 79 2 (.slice (some ⟨g2, 0, none⟩) n c2) n (ivs y).flatten) (h1 : W.heap.size ≤ b1) (h2 : W.heap.size ≤ b2) (hb : Below W.heap.size W W') :
  HalvP b j W (.returned (.tuple #[.slice (some ⟨g1, 0, none⟩) n c1, .slice (some ⟨g2, 0, none⟩) n c2, .bool true])) W' := by
 unfold HalvP
 rw [h]
 subst hn
 exact ⟨⟨_, _, _, _, rfl, hx, hy, fun X hX => ⟨own_ivs o1 hx h1 X hX, own_ivs o2 hy h2 X hX⟩⟩, hb⟩
theorem all_at {b : Fm.BoxD} {k : Nat} {v : Int × Int} (h : b.all Fm.validI = true) (hk : b[k]? = some v) : Fm.validI v = true := by
 rw [List.all_eq_true] at h
 exact h v (List.mem_of_getElem? hk)
structure HvaK (w0 : World) (o : Option Addr) (n cap : Nat) (j : Int) (L : Nat → Bool) (v10 v11 v12 v13 v14 v15 v16 v17 v18 v19 v20 v21 v22 v23 v24 v25 v26 v27 v28 v29 v30 v31 v32 v33 v34 v35 v36 : Value) (w : World) : Prop where
 wf : Below w0.heap.size w0 w
 f0 : L 0 = true → v10 = .slice o n cap
 f1 : L 1 = true → v11 = .bool false
 f2 : L 2 = true → v12 = .bool true
 f3 : L 3 = true → v13 = .bool true
 f4 : L 4 = true → v14 = undef
 f5 : L 5 = true → v15 = undef
 f6 : L 6 = true → v16 = .bool true
 f7 : L 7 = true → v17 = .bool true
 f8 : L 8 = true → v18 = undef
 f9 : L 9 = true → v19 = undef
 f10 : L 10 = true → v20 = undef
 f11 : L 11 = true → v21 = undef
 f12 : L 12 = true → v22 = .bool true
 f13 : L 13 = true → v23 = .bool true
 f14 : L 14 = true → v24 = undef
 f15 : L 15 = true → v25 = undef
 f16 : L 16 = true → v26 = undef
 f17 : L 17 = true → v27 = undef
 f18 : L 18 = true → v28 = undef
 f19 : L 19 = true → v29 = undef
 f20 : L 20 = true → v30 = undef
 f21 : L 21 = true → v31 = undef
 f22 : L 22 = true → v32 = undef
 f23 : L 23 = true → v33 = undef
 f24 : L 24 = true → v34 = undef
 f25 : L 25 = true → v35 = undef
 f26 : L 26 = true → v36 = .bool true
structure HvbK (w0 : World) (o : Option Addr) (n cap : Nat) (j : Int) (L : Nat → Bool) (v10 v11 v12 v13 v14 v15 v16 v17 v18 v19 v20 v21 v22 v23 v24 v25 v26 v27 v28 v29 v30 v31 v32 v33 v34 v35 v36 : Value) (w : World) : Prop where
 wf : Below w0.heap.size w0 w
 f0 : L 0 = true → v10 = .slice o n cap
 f1 : L 1 = true → v11 = .bool true
 f2 : L 2 = true → v12 = .bool false
 f3 : L 3 = true → v13 = .bool false
 f4 : L 4 = true → v14 = .int .i64 j
 f5 : L 5 = true → v15 = .bool true
 f6 : L 6 = true → v16 = .bool true
 f7 : L 7 = true → v17 = .bool true
 f8 : L 8 = true → v18 = undef
 f9 : L 9 = true → v19 = undef
 f10 : L 10 = true → v20 = undef
 f11 : L 11 = true → v21 = undef
 f12 : L 12 = true → v22 = .bool true
 f13 : L 13 = true → v23 = .bool true
 f14 : L 14 = true → v24 = undef
 f15 : L 15 = true → v25 = undef
 f16 : L 16 = true → v26 = undef
 f17 : L 17 = true → v27 = undef
 f18 : L 18 = true → v28 = undef
 f19 : L 19 = true → v29 = undef
 f20 : L 20 = true → v30 = undef
 f21 : L 21 = true → v31 = undef
 f22 : L 22 = true → v32 = undef
 f23 : L 23 = true → v33 = undef
 f24 : L 24 = true → v34 = undef
 f25 : L 25 = true → v35 = undef
 f26 : L 26 = true → v36 = .bool true
structure HvcK (w0 : World) (o : Option Addr) (n cap : Nat) (j : Int) (L : Nat → Bool) (v10 v11 v12 v13 v14 v15 v16 v17 v18 v19 v20 v21 v22 v23 v24 v25 v26 v27 v28 v29 v30 v31 v32 v33 v34 v35 v36 : Value) (w : World) : Prop where
 wf : Below w0.heap.size w0 w
 f0 : L 0 = true → v10 = .slice o n cap
 f1 : L 1 = true → v11 = .bool true
 f2 : L 2 = true → v12 = .bool false
 f3 : L 3 = true → v13 = .bool false
 f4 : L 4 = true → v14 = .int .i64 j
 f5 : L 5 = true → v15 = .bool false
 f6 : L 6 = true → v16 = .bool false
 f7 : L 7 = true → v17 = .bool false
 f8 : L 8 = true → v18 = .int .i64 j
 f9 : L 9 = true → v19 = .slice o n cap
 f10 : L 10 = true → v20 = .int .i64 ((n : Nat) : Int)
 f11 : L 11 = true → v21 = .bool true
 f12 : L 12 = true → v22 = .bool true
 f13 : L 13 = true → v23 = .bool true
 f14 : L 14 = true → v24 = undef
 f15 : L 15 = true → v25 = undef
 f16 : L 16 = true → v26 = undef
 f17 : L 17 = true → v27 = undef
 f18 : L 18 = true → v28 = undef
 f19 : L 19 = true → v29 = undef
 f20 : L 20 = true → v30 = undef
 f21 : L 21 = true → v31 = undef
 f22 : L 22 = true → v32 = undef
 f23 : L 23 = true → v33 = undef
 f24 : L 24 = true → v34 = undef
 f25 : L 25 = true → v35 = undef
 f26 : L 26 = true → v36 = .bool true
structure HvdK (w0 : World) (g off n cap kk : Nat) (lo hi : Int) (L : Nat → Bool) (v10 v11 v12 v13 v14 v15 v16 v17 v18 v19 v20 v21 v22 v23 v24 v25 v26 v27 v28 v29 v30 v31 v32 v33 v34 v35 v36 : Value) (w : World) : Prop where
 wf : Below w0.heap.size w0 w
 f0 : L 0 = true → v10 = .slice (some ⟨g, off, none⟩) n cap
 f1 : L 1 = true → v11 = .bool true
 f2 : L 2 = true → v12 = .bool false
 f3 : L 3 = true → v13 = .bool false
 f4 : L 4 = true → v14 = .int .i64 ((kk : Nat) : Int)
 f5 : L 5 = true → v15 = .bool false
 f6 : L 6 = true → v16 = .bool false
 f7 : L 7 = true → v17 = .bool false
 f8 : L 8 = true → v18 = .int .i64 ((kk : Nat) : Int)
 f9 : L 9 = true → v19 = .slice (some ⟨g, off, none⟩) n cap
 f10 : L 10 = true → v20 = .int .i64 ((n : Nat) : Int)
 f11 : L 11 = true → v21 = .bool false
 f12 : L 12 = true → v22 = .bool false
 f13 : L 13 = true → v23 = .bool false
 f14 : L 14 = true → v24 = .slice (some ⟨g, off, none⟩) n cap
 f15 : L 15 = true → v25 = .int .i64 ((kk : Nat) : Int)
 f16 : L 16 = true → v26 = .pointer (some ⟨g, off + kk * 2, none⟩)
 f17 : L 17 = true → v27 = .pointer (some ⟨g, off + kk * 2 + 1, none⟩)
 f18 : L 18 = true → v28 = .int .i64 hi
 f19 : L 19 = true → v29 = .slice (some ⟨g, off, none⟩) n cap
 f20 : L 20 = true → v30 = .int .i64 ((kk : Nat) : Int)
 f21 : L 21 = true → v31 = .pointer (some ⟨g, off + kk * 2, none⟩)
 f22 : L 22 = true → v32 = .pointer (some ⟨g, off + kk * 2, none⟩)
 f23 : L 23 = true → v33 = .int .i64 lo
 f24 : L 24 = true → v34 = .int .i64 (hi - lo)
 f25 : L 25 = true → v35 = .bool true
 f26 : L 26 = true → v36 = .bool true
structure HveK (w0 : World) (g off n cap kk : Nat) (lo hi : Int) (L : Nat → Bool) (v10 v11 v12 v13 v14 v15 v16 v17 v18 v19 v20 v21 v22 v23 v24 v25 v26 v27 v28 v29 v30 v31 v32 v33 v34 v35 v36 : Value) (w : World) : Prop where
 wf : Below w0.heap.size w0 w
 f0 : L 0 = true → v10 = .slice (some ⟨g, off, none⟩) n cap
 f1 : L 1 = true → v11 = .bool true
 f2 : L 2 = true → v12 = .bool false
 f3 : L 3 = true → v13 = .bool false
 f4 : L 4 = true → v14 = .int .i64 ((kk : Nat) : Int)
 f5 : L 5 = true → v15 = .bool false
 f6 : L 6 = true → v16 = .bool false
 f7 : L 7 = true → v17 = .bool false
 f8 : L 8 = true → v18 = .int .i64 ((kk : Nat) : Int)
 f9 : L 9 = true → v19 = .slice (some ⟨g, off, none⟩) n cap
 f10 : L 10 = true → v20 = .int .i64 ((n : Nat) : Int)
 f11 : L 11 = true → v21 = .bool false
 f12 : L 12 = true → v22 = .bool false
 f13 : L 13 = true → v23 = .bool false
 f14 : L 14 = true → v24 = .slice (some ⟨g, off, none⟩) n cap
 f15 : L 15 = true → v25 = .int .i64 ((kk : Nat) : Int)
 f16 : L 16 = true → v26 = .pointer (some ⟨g, off + kk * 2, none⟩)
 f17 : L 17 = true → v27 = .pointer (some ⟨g, off + kk * 2 + 1, none⟩)
 f18 : L 18 = true → v28 = .int .i64 hi
 f19 : L 19 = true → v29 = .slice (some ⟨g, off, none⟩) n cap
 f20 : L 20 = true → v30 = .int .i64 ((kk : Nat) : Int)
 f21 : L 21 = true → v31 = .pointer (some ⟨g, off + kk * 2, none⟩)
 f22 : L 22 = true → v32 = .pointer (some ⟨g, off + kk * 2, none⟩)
 f23 : L 23 = true → v33 = .int .i64 lo
 f24 : L 24 = true → v34 = .int .i64 (hi - lo)
 f25 : L 25 = true → v35 = .bool false
 f26 : L 26 = true → v36 = .bool false
set_option maxRecDepth 100000 in
set_option maxHeartbeats 8000000 in
theorem halve93 (w0 : World) (o : Option Addr) (cap : Nat) (b : Fm.BoxD) (j : Int) (h : Sl w0 o 2 (ivs b)) (hn : b.length ≤ 1000000) : Calls Tryz.prog 93 #[.slice o b.length cap, .int .i64 j] w0 (HalvP b j w0) := by
 have HV := Lib.hid (fun X (hX : Below w0.heap.size w0 X) => allValid107 X o cap b (h.keep hX) (by omega))
 have hS0 : Below w0.heap.size w0 w0.drew := (Below.refl _ _).drew
 by_cases hv : b.all Fm.validI = false
 ·have E := Lib.hid (halve_a (j := j) hv)
  rw [hv] at HV
  clear hv h
  generalize b.length = n at HV hn ⊢
  go_enter Tryz.func93, Tryz.ntmps93
  go_upto_region 1 with fail
  refine wp_region_inv (by kernel_rfl) (by kernel_rfl) (fun L a w => ∃ v10 v11 v12 v13 v14 v15 v16 v17 v18 v19 v20 v21 v22 v23 v24 v25 v26 v27 v28 v29 v30 v31 v32 v33 v34 v35 v36 : Value, a = { tmps := #[(.slice o n cap), (.int .i64 j), undef, undef, (.slice none 0 0), (.slice none 0 0), (.bool false), undef, undef, undef, v10, v11, v12, v13, v14, v15, v16, v17, v18, v19, v20, v21, v22, v23, v24, v25, v26, v27, v28, v29, v30, v31, v32, v33, v34, v35, v36, undef, undef, undef, undef, undef, undef, undef, undef, undef, undef, undef, undef, undef, undef, undef, undef, undef, undef, undef, undef, undef], defers := [] } ∧ HvaK w0 o n cap j L v10 v11 v12 v13 v14 v15 v16 v17 v18 v19 v20 v21 v22 v23 v24 v25 v26 v27 v28 v29 v30 v31 v32 v33 v34 v35 v36 w) ?_ ?_ ?_
  ·exact ⟨_, _, _, _, _, _, _, _, _, _, _, _, _, _, _, _, _, _, _, _, _, _, _, _, _, _, _, rfl, ⟨hS0, nofun, nofun, nofun, nofun, nofun, nofun, nofun, nofun, nofun, nofun, nofun, nofun, nofun, nofun, nofun, nofun, nofun, nofun, nofun, nofun, nofun, nofun, nofun, nofun, nofun, nofun, nofun⟩⟩
  ·intro iq oq ho L a w hL hd hJ
   obtain ⟨v10, v11, v12, v13, v14, v15, v16, v17, v18, v19, v20, v21, v22, v23, v24, v25, v26, v27, v28, v29, v30, v31, v32, v33, v34, v35, v36, rfl, k⟩ := hJ
   have hiq : iq < 27 := by have := (Array.getElem?_eq_some_iff.1 ho).1; simpa using this
   match iq, hiq, ho, hL with
   | 0, _, ho, hL =>
    have ho2 := ho
    simp only [qz1, qz2, qz3, qz4] at ho
    subst ho
    refine wpOp_step ho2 (fun K hK => ?_)
    go_simp
    exact hK _ _ ⟨_, _, _, _, _, _, _, _, _, _, _, _, _, _, _, _, _, _, _, _, _, _, _, _, _, _, _, rfl, ⟨k.wf, fun _ => rfl, k.f1, k.f2, k.f3, k.f4, k.f5, k.f6, k.f7, k.f8, k.f9, k.f10, k.f11, k.f12, k.f13, k.f14, k.f15, k.f16, k.f17, k.f18, k.f19, k.f20, k.f21, k.f22, k.f23, k.f24, k.f25, k.f26⟩⟩
   | 1, _, ho, hL =>
    have ho2 := ho
    simp only [qz1, qz2, qz3, qz4] at ho
    subst ho
    refine wpOp_step ho2 (fun K hK => ?_)
    obtain rfl := k.f0 (hd ⟨0, .data⟩ (by simp) rfl)
    have hcall := HV.out w k.wf
    go_simp
    refine hcall.mono ?_
    rintro e X ⟨rfl, hb⟩
    exact hK _ _ ⟨_, _, _, _, _, _, _, _, _, _, _, _, _, _, _, _, _, _, _, _, _, _, _, _, _, _, _, rfl, ⟨k.wf.trans (hb.mono k.wf.size), k.f0, fun _ => rfl, k.f2, k.f3, k.f4, k.f5, k.f6, k.f7, k.f8, k.f9, k.f10, k.f11, k.f12, k.f13, k.f14, k.f15, k.f16, k.f17, k.f18, k.f19, k.f20, k.f21, k.f22, k.f23, k.f24, k.f25, k.f26⟩⟩
   | 2, _, ho, hL =>
    have ho2 := ho
    simp only [qz1, qz2, qz3, qz4] at ho
    subst ho
    refine wpOp_step ho2 (fun K hK => ?_)
    obtain rfl := k.f1 (hd ⟨1, .data⟩ (by simp) rfl)
    go_simp
    exact hK _ _ ⟨_, _, _, _, _, _, _, _, _, _, _, _, _, _, _, _, _, _, _, _, _, _, _, _, _, _, _, rfl, ⟨k.wf, k.f0, k.f1, fun _ => rfl, k.f3, k.f4, k.f5, k.f6, k.f7, k.f8, k.f9, k.f10, k.f11, k.f12, k.f13, k.f14, k.f15, k.f16, k.f17, k.f18, k.f19, k.f20, k.f21, k.f22, k.f23, k.f24, k.f25, k.f26⟩⟩
   | 3, _, ho, hL =>
    have ho2 := ho
    simp only [qz1, qz2, qz3, qz4] at ho
    subst ho
    refine wpOp_step ho2 (fun K hK => ?_)
    obtain rfl := k.f2 (hd ⟨2, .data⟩ (by simp) rfl)
    go_simp
    exact hK _ _ ⟨_, _, _, _, _, _, _, _, _, _, _, _, _, _, _, _, _, _, _, _, _, _, _, _, _, _, _, rfl, ⟨k.wf, k.f0, k.f1, k.f2, fun _ => rfl, k.f4, k.f5, k.f6, k.f7, k.f8, k.f9, k.f10, k.f11, k.f12, k.f13, k.f14, k.f15, k.f16, k.f17, k.f18, k.f19, k.f20, k.f21, k.f22, k.f23, k.f24, k.f25, k.f26⟩⟩
   | 4, _, ho, hL =>
    have ho2 := ho
    simp only [qz1, qz2, qz3, qz4] at ho
    subst ho
    refine wpOp_step ho2 (fun K hK => ?_)
    obtain rfl := k.f3 (hd ⟨3, .guard⟩ (by simp) rfl)
    go_simp
    exact hK _ _ ⟨_, _, _, _, _, _, _, _, _, _, _, _, _, _, _, _, _, _, _, _, _, _, _, _, _, _, _, rfl, ⟨k.wf, k.f0, k.f1, k.f2, k.f3, fun _ => rfl, k.f5, k.f6, k.f7, k.f8, k.f9, k.f10, k.f11, k.f12, k.f13, k.f14, k.f15, k.f16, k.f17, k.f18, k.f19, k.f20, k.f21, k.f22, k.f23, k.f24, k.f25, k.f26⟩⟩
   | 5, _, ho, hL =>
    have ho2 := ho
    simp only [qz1, qz2, qz3, qz4] at ho
    subst ho
    refine wpOp_step ho2 (fun K hK => ?_)
    obtain rfl := k.f4 (hd ⟨4, .data⟩ (by simp) rfl)
    obtain rfl := k.f3 (hd ⟨3, .guard⟩ (by simp) rfl)
    go_simp
    exact hK _ _ ⟨_, _, _, _, _, _, _, _, _, _, _, _, _, _, _, _, _, _, _, _, _, _, _, _, _, _, _, rfl, ⟨k.wf, k.f0, k.f1, k.f2, k.f3, k.f4, fun _ => rfl, k.f6, k.f7, k.f8, k.f9, k.f10, k.f11, k.f12, k.f13, k.f14, k.f15, k.f16, k.f17, k.f18, k.f19, k.f20, k.f21, k.f22, k.f23, k.f24, k.f25, k.f26⟩⟩
   | 6, _, ho, hL =>
    have ho2 := ho
    simp only [qz1, qz2, qz3, qz4] at ho
    subst ho
    refine wpOp_step ho2 (fun K hK => ?_)
    obtain rfl := k.f3 (hd ⟨3, .data⟩ (by simp) rfl)
    obtain rfl := k.f5 (hd ⟨5, .data⟩ (by simp) rfl)
    go_simp
    exact hK _ _ ⟨_, _, _, _, _, _, _, _, _, _, _, _, _, _, _, _, _, _, _, _, _, _, _, _, _, _, _, rfl, ⟨k.wf, k.f0, k.f1, k.f2, k.f3, k.f4, k.f5, fun _ => rfl, k.f7, k.f8, k.f9, k.f10, k.f11, k.f12, k.f13, k.f14, k.f15, k.f16, k.f17, k.f18, k.f19, k.f20, k.f21, k.f22, k.f23, k.f24, k.f25, k.f26⟩⟩
   | 7, _, ho, hL =>
    have ho2 := ho
    simp only [qz1, qz2, qz3, qz4] at ho
    subst ho
    refine wpOp_step ho2 (fun K hK => ?_)
    obtain rfl := k.f6 (hd ⟨6, .data⟩ (by simp) rfl)
    go_simp
    exact hK _ _ ⟨_, _, _, _, _, _, _, _, _, _, _, _, _, _, _, _, _, _, _, _, _, _, _, _, _, _, _, rfl, ⟨k.wf, k.f0, k.f1, k.f2, k.f3, k.f4, k.f5, k.f6, fun _ => rfl, k.f8, k.f9, k.f10, k.f11, k.f12, k.f13, k.f14, k.f15, k.f16, k.f17, k.f18, k.f19, k.f20, k.f21, k.f22, k.f23, k.f24, k.f25, k.f26⟩⟩
   | 8, _, ho, hL =>
    have ho2 := ho
    simp only [qz1, qz2, qz3, qz4] at ho
    subst ho
    refine wpOp_step ho2 (fun K hK => ?_)
    obtain rfl := k.f7 (hd ⟨7, .guard⟩ (by simp) rfl)
    go_simp
    exact hK _ _ ⟨_, _, _, _, _, _, _, _, _, _, _, _, _, _, _, _, _, _, _, _, _, _, _, _, _, _, _, rfl, ⟨k.wf, k.f0, k.f1, k.f2, k.f3, k.f4, k.f5, k.f6, k.f7, fun _ => rfl, k.f9, k.f10, k.f11, k.f12, k.f13, k.f14, k.f15, k.f16, k.f17, k.f18, k.f19, k.f20, k.f21, k.f22, k.f23, k.f24, k.f25, k.f26⟩⟩
   | 9, _, ho, hL =>
    have ho2 := ho
    simp only [qz1, qz2, qz3, qz4] at ho
    subst ho
    refine wpOp_step ho2 (fun K hK => ?_)
    obtain rfl := k.f7 (hd ⟨7, .guard⟩ (by simp) rfl)
    go_simp
    exact hK _ _ ⟨_, _, _, _, _, _, _, _, _, _, _, _, _, _, _, _, _, _, _, _, _, _, _, _, _, _, _, rfl, ⟨k.wf, k.f0, k.f1, k.f2, k.f3, k.f4, k.f5, k.f6, k.f7, k.f8, fun _ => rfl, k.f10, k.f11, k.f12, k.f13, k.f14, k.f15, k.f16, k.f17, k.f18, k.f19, k.f20, k.f21, k.f22, k.f23, k.f24, k.f25, k.f26⟩⟩
   | 10, _, ho, hL =>
    have ho2 := ho
    simp only [qz1, qz2, qz3, qz4] at ho
    subst ho
    refine wpOp_step ho2 (fun K hK => ?_)
    obtain rfl := k.f9 (hd ⟨9, .data⟩ (by simp) rfl)
    obtain rfl := k.f7 (hd ⟨7, .guard⟩ (by simp) rfl)
    go_simp
    exact hK _ _ ⟨_, _, _, _, _, _, _, _, _, _, _, _, _, _, _, _, _, _, _, _, _, _, _, _, _, _, _, rfl, ⟨k.wf, k.f0, k.f1, k.f2, k.f3, k.f4, k.f5, k.f6, k.f7, k.f8, k.f9, fun _ => rfl, k.f11, k.f12, k.f13, k.f14, k.f15, k.f16, k.f17, k.f18, k.f19, k.f20, k.f21, k.f22, k.f23, k.f24, k.f25, k.f26⟩⟩
   | 11, _, ho, hL =>
    have ho2 := ho
    simp only [qz1, qz2, qz3, qz4] at ho
    subst ho
    refine wpOp_step ho2 (fun K hK => ?_)
    obtain rfl := k.f8 (hd ⟨8, .data⟩ (by simp) rfl)
    obtain rfl := k.f10 (hd ⟨10, .data⟩ (by simp) rfl)
    obtain rfl := k.f7 (hd ⟨7, .guard⟩ (by simp) rfl)
    go_simp
    exact hK _ _ ⟨_, _, _, _, _, _, _, _, _, _, _, _, _, _, _, _, _, _, _, _, _, _, _, _, _, _, _, rfl, ⟨k.wf, k.f0, k.f1, k.f2, k.f3, k.f4, k.f5, k.f6, k.f7, k.f8, k.f9, k.f10, fun _ => rfl, k.f12, k.f13, k.f14, k.f15, k.f16, k.f17, k.f18, k.f19, k.f20, k.f21, k.f22, k.f23, k.f24, k.f25, k.f26⟩⟩
   | 12, _, ho, hL =>
    have ho2 := ho
    simp only [qz1, qz2, qz3, qz4] at ho
    subst ho
    refine wpOp_step ho2 (fun K hK => ?_)
    obtain rfl := k.f7 (hd ⟨7, .data⟩ (by simp) rfl)
    obtain rfl := k.f11 (hd ⟨11, .data⟩ (by simp) rfl)
    go_simp
    exact hK _ _ ⟨_, _, _, _, _, _, _, _, _, _, _, _, _, _, _, _, _, _, _, _, _, _, _, _, _, _, _, rfl, ⟨k.wf, k.f0, k.f1, k.f2, k.f3, k.f4, k.f5, k.f6, k.f7, k.f8, k.f9, k.f10, k.f11, fun _ => rfl, k.f13, k.f14, k.f15, k.f16, k.f17, k.f18, k.f19, k.f20, k.f21, k.f22, k.f23, k.f24, k.f25, k.f26⟩⟩
   | 13, _, ho, hL =>
    have ho2 := ho
    simp only [qz1, qz2, qz3, qz4] at ho
    subst ho
    refine wpOp_step ho2 (fun K hK => ?_)
    obtain rfl := k.f12 (hd ⟨12, .data⟩ (by simp) rfl)
    go_simp
    exact hK _ _ ⟨_, _, _, _, _, _, _, _, _, _, _, _, _, _, _, _, _, _, _, _, _, _, _, _, _, _, _, rfl, ⟨k.wf, k.f0, k.f1, k.f2, k.f3, k.f4, k.f5, k.f6, k.f7, k.f8, k.f9, k.f10, k.f11, k.f12, fun _ => rfl, k.f14, k.f15, k.f16, k.f17, k.f18, k.f19, k.f20, k.f21, k.f22, k.f23, k.f24, k.f25, k.f26⟩⟩
   | 14, _, ho, hL =>
    have ho2 := ho
    simp only [qz1, qz2, qz3, qz4] at ho
    subst ho
    refine wpOp_step ho2 (fun K hK => ?_)
    obtain rfl := k.f13 (hd ⟨13, .guard⟩ (by simp) rfl)
    go_simp
    exact hK _ _ ⟨_, _, _, _, _, _, _, _, _, _, _, _, _, _, _, _, _, _, _, _, _, _, _, _, _, _, _, rfl, ⟨k.wf, k.f0, k.f1, k.f2, k.f3, k.f4, k.f5, k.f6, k.f7, k.f8, k.f9, k.f10, k.f11, k.f12, k.f13, fun _ => rfl, k.f15, k.f16, k.f17, k.f18, k.f19, k.f20, k.f21, k.f22, k.f23, k.f24, k.f25, k.f26⟩⟩
   | 15, _, ho, hL =>
    have ho2 := ho
    simp only [qz1, qz2, qz3, qz4] at ho
    subst ho
    refine wpOp_step ho2 (fun K hK => ?_)
    obtain rfl := k.f13 (hd ⟨13, .guard⟩ (by simp) rfl)
    go_simp
    exact hK _ _ ⟨_, _, _, _, _, _, _, _, _, _, _, _, _, _, _, _, _, _, _, _, _, _, _, _, _, _, _, rfl, ⟨k.wf, k.f0, k.f1, k.f2, k.f3, k.f4, k.f5, k.f6, k.f7, k.f8, k.f9, k.f10, k.f11, k.f12, k.f13, k.f14, fun _ => rfl, k.f16, k.f17, k.f18, k.f19, k.f20, k.f21, k.f22, k.f23, k.f24, k.f25, k.f26⟩⟩
   | 16, _, ho, hL =>
    have ho2 := ho
    simp only [qz1, qz2, qz3, qz4] at ho
    subst ho
    refine wpOp_step ho2 (fun K hK => ?_)
    obtain rfl := k.f14 (hd ⟨14, .data⟩ (by simp) rfl)
    obtain rfl := k.f15 (hd ⟨15, .data⟩ (by simp) rfl)
    obtain rfl := k.f13 (hd ⟨13, .guard⟩ (by simp) rfl)
    go_simp
    exact hK _ _ ⟨_, _, _, _, _, _, _, _, _, _, _, _, _, _, _, _, _, _, _, _, _, _, _, _, _, _, _, rfl, ⟨k.wf, k.f0, k.f1, k.f2, k.f3, k.f4, k.f5, k.f6, k.f7, k.f8, k.f9, k.f10, k.f11, k.f12, k.f13, k.f14, k.f15, fun _ => rfl, k.f17, k.f18, k.f19, k.f20, k.f21, k.f22, k.f23, k.f24, k.f25, k.f26⟩⟩
   | 17, _, ho, hL =>
    have ho2 := ho
    simp only [qz1, qz2, qz3, qz4] at ho
    subst ho
    refine wpOp_step ho2 (fun K hK => ?_)
    obtain rfl := k.f16 (hd ⟨16, .data⟩ (by simp) rfl)
    obtain rfl := k.f13 (hd ⟨13, .guard⟩ (by simp) rfl)
    go_simp
    exact hK _ _ ⟨_, _, _, _, _, _, _, _, _, _, _, _, _, _, _, _, _, _, _, _, _, _, _, _, _, _, _, rfl, ⟨k.wf, k.f0, k.f1, k.f2, k.f3, k.f4, k.f5, k.f6, k.f7, k.f8, k.f9, k.f10, k.f11, k.f12, k.f13, k.f14, k.f15, k.f16, fun _ => rfl, k.f18, k.f19, k.f20, k.f21, k.f22, k.f23, k.f24, k.f25, k.f26⟩⟩
   | 18, _, ho, hL =>
    have ho2 := ho
    simp only [qz1, qz2, qz3, qz4] at ho
    subst ho
    refine wpOp_step ho2 (fun K hK => ?_)
    obtain rfl := k.f17 (hd ⟨17, .data⟩ (by simp) rfl)
    obtain rfl := k.f13 (hd ⟨13, .guard⟩ (by simp) rfl)
    go_simp
    exact hK _ _ ⟨_, _, _, _, _, _, _, _, _, _, _, _, _, _, _, _, _, _, _, _, _, _, _, _, _, _, _, rfl, ⟨k.wf, k.f0, k.f1, k.f2, k.f3, k.f4, k.f5, k.f6, k.f7, k.f8, k.f9, k.f10, k.f11, k.f12, k.f13, k.f14, k.f15, k.f16, k.f17, fun _ => rfl, k.f19, k.f20, k.f21, k.f22, k.f23, k.f24, k.f25, k.f26⟩⟩
   | 19, _, ho, hL =>
    have ho2 := ho
    simp only [qz1, qz2, qz3, qz4] at ho
    subst ho
    refine wpOp_step ho2 (fun K hK => ?_)
    obtain rfl := k.f13 (hd ⟨13, .guard⟩ (by simp) rfl)
    go_simp
    exact hK _ _ ⟨_, _, _, _, _, _, _, _, _, _, _, _, _, _, _, _, _, _, _, _, _, _, _, _, _, _, _, rfl, ⟨k.wf, k.f0, k.f1, k.f2, k.f3, k.f4, k.f5, k.f6, k.f7, k.f8, k.f9, k.f10, k.f11, k.f12, k.f13, k.f14, k.f15, k.f16, k.f17, k.f18, fun _ => rfl, k.f20, k.f21, k.f22, k.f23, k.f24, k.f25, k.f26⟩⟩
   | 20, _, ho, hL =>
    have ho2 := ho
    simp only [qz1, qz2, qz3, qz4] at ho
    subst ho
    refine wpOp_step ho2 (fun K hK => ?_)
    obtain rfl := k.f13 (hd ⟨13, .guard⟩ (by simp) rfl)
    go_simp
    exact hK _ _ ⟨_, _, _, _, _, _, _, _, _, _, _, _, _, _, _, _, _, _, _, _, _, _, _, _, _, _, _, rfl, ⟨k.wf, k.f0, k.f1, k.f2, k.f3, k.f4, k.f5, k.f6, k.f7, k.f8, k.f9, k.f10, k.f11, k.f12, k.f13, k.f14, k.f15, k.f16, k.f17, k.f18, k.f19, fun _ => rfl, k.f21, k.f22, k.f23, k.f24, k.f25, k.f26⟩⟩
   | 21, _, ho, hL =>
    have ho2 := ho
    simp only [qz1, qz2, qz3, qz4] at ho
    subst ho
    refine wpOp_step ho2 (fun K hK => ?_)
    obtain rfl := k.f19 (hd ⟨19, .data⟩ (by simp) rfl)
    obtain rfl := k.f20 (hd ⟨20, .data⟩ (by simp) rfl)
    obtain rfl := k.f13 (hd ⟨13, .guard⟩ (by simp) rfl)
    go_simp
    exact hK _ _ ⟨_, _, _, _, _, _, _, _, _, _, _, _, _, _, _, _, _, _, _, _, _, _, _, _, _, _, _, rfl, ⟨k.wf, k.f0, k.f1, k.f2, k.f3, k.f4, k.f5, k.f6, k.f7, k.f8, k.f9, k.f10, k.f11, k.f12, k.f13, k.f14, k.f15, k.f16, k.f17, k.f18, k.f19, k.f20, fun _ => rfl, k.f22, k.f23, k.f24, k.f25, k.f26⟩⟩
   | 22, _, ho, hL =>
    have ho2 := ho
    simp only [qz1, qz2, qz3, qz4] at ho
    subst ho
    refine wpOp_step ho2 (fun K hK => ?_)
    obtain rfl := k.f21 (hd ⟨21, .data⟩ (by simp) rfl)
    obtain rfl := k.f13 (hd ⟨13, .guard⟩ (by simp) rfl)
    go_simp
    exact hK _ _ ⟨_, _, _, _, _, _, _, _, _, _, _, _, _, _, _, _, _, _, _, _, _, _, _, _, _, _, _, rfl, ⟨k.wf, k.f0, k.f1, k.f2, k.f3, k.f4, k.f5, k.f6, k.f7, k.f8, k.f9, k.f10, k.f11, k.f12, k.f13, k.f14, k.f15, k.f16, k.f17, k.f18, k.f19, k.f20, k.f21, fun _ => rfl, k.f23, k.f24, k.f25, k.f26⟩⟩
   | 23, _, ho, hL =>
    have ho2 := ho
    simp only [qz1, qz2, qz3, qz4] at ho
    subst ho
    refine wpOp_step ho2 (fun K hK => ?_)
    obtain rfl := k.f22 (hd ⟨22, .data⟩ (by simp) rfl)
    obtain rfl := k.f13 (hd ⟨13, .guard⟩ (by simp) rfl)
    go_simp
    exact hK _ _ ⟨_, _, _, _, _, _, _, _, _, _, _, _, _, _, _, _, _, _, _, _, _, _, _, _, _, _, _, rfl, ⟨k.wf, k.f0, k.f1, k.f2, k.f3, k.f4, k.f5, k.f6, k.f7, k.f8, k.f9, k.f10, k.f11, k.f12, k.f13, k.f14, k.f15, k.f16, k.f17, k.f18, k.f19, k.f20, k.f21, k.f22, fun _ => rfl, k.f24, k.f25, k.f26⟩⟩
   | 24, _, ho, hL =>
    have ho2 := ho
    simp only [qz1, qz2, qz3, qz4] at ho
    subst ho
    refine wpOp_step ho2 (fun K hK => ?_)
    obtain rfl := k.f18 (hd ⟨18, .data⟩ (by simp) rfl)
    obtain rfl := k.f23 (hd ⟨23, .data⟩ (by simp) rfl)
    obtain rfl := k.f13 (hd ⟨13, .guard⟩ (by simp) rfl)
    go_simp
    exact hK _ _ ⟨_, _, _, _, _, _, _, _, _, _, _, _, _, _, _, _, _, _, _, _, _, _, _, _, _, _, _, rfl, ⟨k.wf, k.f0, k.f1, k.f2, k.f3, k.f4, k.f5, k.f6, k.f7, k.f8, k.f9, k.f10, k.f11, k.f12, k.f13, k.f14, k.f15, k.f16, k.f17, k.f18, k.f19, k.f20, k.f21, k.f22, k.f23, fun _ => rfl, k.f25, k.f26⟩⟩
   | 25, _, ho, hL =>
    have ho2 := ho
    simp only [qz1, qz2, qz3, qz4] at ho
    subst ho
    refine wpOp_step ho2 (fun K hK => ?_)
    obtain rfl := k.f24 (hd ⟨24, .data⟩ (by simp) rfl)
    obtain rfl := k.f13 (hd ⟨13, .guard⟩ (by simp) rfl)
    go_simp
    exact hK _ _ ⟨_, _, _, _, _, _, _, _, _, _, _, _, _, _, _, _, _, _, _, _, _, _, _, _, _, _, _, rfl, ⟨k.wf, k.f0, k.f1, k.f2, k.f3, k.f4, k.f5, k.f6, k.f7, k.f8, k.f9, k.f10, k.f11, k.f12, k.f13, k.f14, k.f15, k.f16, k.f17, k.f18, k.f19, k.f20, k.f21, k.f22, k.f23, k.f24, fun _ => rfl, k.f26⟩⟩
   | 26, _, ho, hL =>
    have ho2 := ho
    simp only [qz1, qz2, qz3, qz4] at ho
    subst ho
    refine wpOp_step ho2 (fun K hK => ?_)
    obtain rfl := k.f13 (hd ⟨13, .data⟩ (by simp) rfl)
    obtain rfl := k.f25 (hd ⟨25, .data⟩ (by simp) rfl)
    go_simp
    exact hK _ _ ⟨_, _, _, _, _, _, _, _, _, _, _, _, _, _, _, _, _, _, _, _, _, _, _, _, _, _, _, rfl, ⟨k.wf, k.f0, k.f1, k.f2, k.f3, k.f4, k.f5, k.f6, k.f7, k.f8, k.f9, k.f10, k.f11, k.f12, k.f13, k.f14, k.f15, k.f16, k.f17, k.f18, k.f19, k.f20, k.f21, k.f22, k.f23, k.f24, k.f25, fun _ => rfl⟩⟩
   | n + 27, h, _, _ => omega
  ·intro L a w hL hJ
   obtain ⟨v10, v11, v12, v13, v14, v15, v16, v17, v18, v19, v20, v21, v22, v23, v24, v25, v26, v27, v28, v29, v30, v31, v32, v33, v34, v35, v36, rfl, k⟩ := hJ
   obtain rfl := k.f0 (hL 0 (by decide))
   obtain rfl := k.f1 (hL 1 (by decide))
   obtain rfl := k.f2 (hL 2 (by decide))
   obtain rfl := k.f3 (hL 3 (by decide))
   obtain rfl := k.f4 (hL 4 (by decide))
   obtain rfl := k.f5 (hL 5 (by decide))
   obtain rfl := k.f6 (hL 6 (by decide))
   obtain rfl := k.f7 (hL 7 (by decide))
   obtain rfl := k.f8 (hL 8 (by decide))
   obtain rfl := k.f9 (hL 9 (by decide))
   obtain rfl := k.f10 (hL 10 (by decide))
   obtain rfl := k.f11 (hL 11 (by decide))
   obtain rfl := k.f12 (hL 12 (by decide))
   obtain rfl := k.f13 (hL 13 (by decide))
   obtain rfl := k.f14 (hL 14 (by decide))
   obtain rfl := k.f15 (hL 15 (by decide))
   obtain rfl := k.f16 (hL 16 (by decide))
   obtain rfl := k.f17 (hL 17 (by decide))
   obtain rfl := k.f18 (hL 18 (by decide))
   obtain rfl := k.f19 (hL 19 (by decide))
   obtain rfl := k.f20 (hL 20 (by decide))
   obtain rfl := k.f21 (hL 21 (by decide))
   obtain rfl := k.f22 (hL 22 (by decide))
   obtain rfl := k.f23 (hL 23 (by decide))
   obtain rfl := k.f24 (hL 24 (by decide))
   obtain rfl := k.f25 (hL 25 (by decide))
   obtain rfl := k.f26 (hL 26 (by decide))
   have hbw := k.wf
   dsimp only
   clear k hL
   go_wp2
   refine bodyPost_ret (v := .tuple #[.slice none 0 0, .slice none 0 0, .bool false]) (by simp [results, Tryz.results93, go_sem]) rfl ?_
   exact HalvP.no E.out hbw
 ·replace hv : b.all Fm.validI = true := by simpa using hv
  rw [hv] at HV
  by_cases hj : j < 0
  ·have E := Lib.hid (halve_b (b := b) (j := j) (by omega))
   have hj0 : decide (j < 0) = true := decide_eq_true hj
   clear hv h hj
   generalize b.length = n at HV hn ⊢
   go_enter Tryz.func93, Tryz.ntmps93
   go_upto_region 1 with fail
   refine wp_region_inv (by kernel_rfl) (by kernel_rfl) (fun L a w => ∃ v10 v11 v12 v13 v14 v15 v16 v17 v18 v19 v20 v21 v22 v23 v24 v25 v26 v27 v28 v29 v30 v31 v32 v33 v34 v35 v36 : Value, a = { tmps := #[(.slice o n cap), (.int .i64 j), undef, undef, (.slice none 0 0), (.slice none 0 0), (.bool false), undef, undef, undef, v10, v11, v12, v13, v14, v15, v16, v17, v18, v19, v20, v21, v22, v23, v24, v25, v26, v27, v28, v29, v30, v31, v32, v33, v34, v35, v36, undef, undef, undef, undef, undef, undef, undef, undef, undef, undef, undef, undef, undef, undef, undef, undef, undef, undef, undef, undef, undef], defers := [] } ∧ HvbK w0 o n cap j L v10 v11 v12 v13 v14 v15 v16 v17 v18 v19 v20 v21 v22 v23 v24 v25 v26 v27 v28 v29 v30 v31 v32 v33 v34 v35 v36 w) ?_ ?_ ?_
   ·exact ⟨_, _, _, _, _, _, _, _, _, _, _, _, _, _, _, _, _, _, _, _, _, _, _, _, _, _, _, rfl, ⟨hS0, nofun, nofun, nofun, nofun, nofun, nofun, nofun, nofun, nofun, nofun, nofun, nofun, nofun, nofun, nofun, nofun, nofun, nofun, nofun, nofun, nofun, nofun, nofun, nofun, nofun, nofun, nofun⟩⟩
   ·intro iq oq ho L a w hL hd hJ
    obtain ⟨v10, v11, v12, v13, v14, v15, v16, v17, v18, v19, v20, v21, v22, v23, v24, v25, v26, v27, v28, v29, v30, v31, v32, v33, v34, v35, v36, rfl, k⟩ := hJ
    have hiq : iq < 27 := by have := (Array.getElem?_eq_some_iff.1 ho).1; simpa using this
    match iq, hiq, ho, hL with
    | 0, _, ho, hL =>
     have ho2 := ho
     simp only [qz1, qz2, qz3, qz4] at ho
     subst ho
     refine wpOp_step ho2 (fun K hK => ?_)
     go_simp
     exact hK _ _ ⟨_, _, _, _, _, _, _, _, _, _, _, _, _, _, _, _, _, _, _, _, _, _, _, _, _, _, _, rfl, ⟨k.wf, fun _ => rfl, k.f1, k.f2, k.f3, k.f4, k.f5, k.f6, k.f7, k.f8, k.f9, k.f10, k.f11, k.f12, k.f13, k.f14, k.f15, k.f16, k.f17, k.f18, k.f19, k.f20, k.f21, k.f22, k.f23, k.f24, k.f25, k.f26⟩⟩
    | 1, _, ho, hL =>
     have ho2 := ho
     simp only [qz1, qz2, qz3, qz4] at ho
     subst ho
     refine wpOp_step ho2 (fun K hK => ?_)
     obtain rfl := k.f0 (hd ⟨0, .data⟩ (by simp) rfl)
     have hcall := HV.out w k.wf
     go_simp
     refine hcall.mono ?_
     rintro e X ⟨rfl, hb⟩
     exact hK _ _ ⟨_, _, _, _, _, _, _, _, _, _, _, _, _, _, _, _, _, _, _, _, _, _, _, _, _, _, _, rfl, ⟨k.wf.trans (hb.mono k.wf.size), k.f0, fun _ => rfl, k.f2, k.f3, k.f4, k.f5, k.f6, k.f7, k.f8, k.f9, k.f10, k.f11, k.f12, k.f13, k.f14, k.f15, k.f16, k.f17, k.f18, k.f19, k.f20, k.f21, k.f22, k.f23, k.f24, k.f25, k.f26⟩⟩
    | 2, _, ho, hL =>
     have ho2 := ho
     simp only [qz1, qz2, qz3, qz4] at ho
     subst ho
     refine wpOp_step ho2 (fun K hK => ?_)
     obtain rfl := k.f1 (hd ⟨1, .data⟩ (by simp) rfl)
     go_simp
     exact hK _ _ ⟨_, _, _, _, _, _, _, _, _, _, _, _, _, _, _, _, _, _, _, _, _, _, _, _, _, _, _, rfl, ⟨k.wf, k.f0, k.f1, fun _ => rfl, k.f3, k.f4, k.f5, k.f6, k.f7, k.f8, k.f9, k.f10, k.f11, k.f12, k.f13, k.f14, k.f15, k.f16, k.f17, k.f18, k.f19, k.f20, k.f21, k.f22, k.f23, k.f24, k.f25, k.f26⟩⟩
    | 3, _, ho, hL =>
     have ho2 := ho
     simp only [qz1, qz2, qz3, qz4] at ho
     subst ho
     refine wpOp_step ho2 (fun K hK => ?_)
     obtain rfl := k.f2 (hd ⟨2, .data⟩ (by simp) rfl)
     go_simp
     exact hK _ _ ⟨_, _, _, _, _, _, _, _, _, _, _, _, _, _, _, _, _, _, _, _, _, _, _, _, _, _, _, rfl, ⟨k.wf, k.f0, k.f1, k.f2, fun _ => rfl, k.f4, k.f5, k.f6, k.f7, k.f8, k.f9, k.f10, k.f11, k.f12, k.f13, k.f14, k.f15, k.f16, k.f17, k.f18, k.f19, k.f20, k.f21, k.f22, k.f23, k.f24, k.f25, k.f26⟩⟩
    | 4, _, ho, hL =>
     have ho2 := ho
     simp only [qz1, qz2, qz3, qz4] at ho
     subst ho
     refine wpOp_step ho2 (fun K hK => ?_)
     obtain rfl := k.f3 (hd ⟨3, .guard⟩ (by simp) rfl)
     go_simp
     exact hK _ _ ⟨_, _, _, _, _, _, _, _, _, _, _, _, _, _, _, _, _, _, _, _, _, _, _, _, _, _, _, rfl, ⟨k.wf, k.f0, k.f1, k.f2, k.f3, fun _ => rfl, k.f5, k.f6, k.f7, k.f8, k.f9, k.f10, k.f11, k.f12, k.f13, k.f14, k.f15, k.f16, k.f17, k.f18, k.f19, k.f20, k.f21, k.f22, k.f23, k.f24, k.f25, k.f26⟩⟩
    | 5, _, ho, hL =>
     have ho2 := ho
     simp only [qz1, qz2, qz3, qz4] at ho
     subst ho
     refine wpOp_step ho2 (fun K hK => ?_)
     obtain rfl := k.f4 (hd ⟨4, .data⟩ (by simp) rfl)
     obtain rfl := k.f3 (hd ⟨3, .guard⟩ (by simp) rfl)
     go_simp
     exact hK _ _ ⟨_, _, _, _, _, _, _, _, _, _, _, _, _, _, _, _, _, _, _, _, _, _, _, _, _, _, _, rfl, ⟨k.wf, k.f0, k.f1, k.f2, k.f3, k.f4, fun _ => rfl, k.f6, k.f7, k.f8, k.f9, k.f10, k.f11, k.f12, k.f13, k.f14, k.f15, k.f16, k.f17, k.f18, k.f19, k.f20, k.f21, k.f22, k.f23, k.f24, k.f25, k.f26⟩⟩
    | 6, _, ho, hL =>
     have ho2 := ho
     simp only [qz1, qz2, qz3, qz4] at ho
     subst ho
     refine wpOp_step ho2 (fun K hK => ?_)
     obtain rfl := k.f3 (hd ⟨3, .data⟩ (by simp) rfl)
     obtain rfl := k.f5 (hd ⟨5, .data⟩ (by simp) rfl)
     go_simp
     exact hK _ _ ⟨_, _, _, _, _, _, _, _, _, _, _, _, _, _, _, _, _, _, _, _, _, _, _, _, _, _, _, rfl, ⟨k.wf, k.f0, k.f1, k.f2, k.f3, k.f4, k.f5, fun _ => rfl, k.f7, k.f8, k.f9, k.f10, k.f11, k.f12, k.f13, k.f14, k.f15, k.f16, k.f17, k.f18, k.f19, k.f20, k.f21, k.f22, k.f23, k.f24, k.f25, k.f26⟩⟩
    | 7, _, ho, hL =>
     have ho2 := ho
     simp only [qz1, qz2, qz3, qz4] at ho
     subst ho
     refine wpOp_step ho2 (fun K hK => ?_)
     obtain rfl := k.f6 (hd ⟨6, .data⟩ (by simp) rfl)
     go_simp
     exact hK _ _ ⟨_, _, _, _, _, _, _, _, _, _, _, _, _, _, _, _, _, _, _, _, _, _, _, _, _, _, _, rfl, ⟨k.wf, k.f0, k.f1, k.f2, k.f3, k.f4, k.f5, k.f6, fun _ => rfl, k.f8, k.f9, k.f10, k.f11, k.f12, k.f13, k.f14, k.f15, k.f16, k.f17, k.f18, k.f19, k.f20, k.f21, k.f22, k.f23, k.f24, k.f25, k.f26⟩⟩
    | 8, _, ho, hL =>
     have ho2 := ho
     simp only [qz1, qz2, qz3, qz4] at ho
     subst ho
     refine wpOp_step ho2 (fun K hK => ?_)
     obtain rfl := k.f7 (hd ⟨7, .guard⟩ (by simp) rfl)
     go_simp
     exact hK _ _ ⟨_, _, _, _, _, _, _, _, _, _, _, _, _, _, _, _, _, _, _, _, _, _, _, _, _, _, _, rfl, ⟨k.wf, k.f0, k.f1, k.f2, k.f3, k.f4, k.f5, k.f6, k.f7, fun _ => rfl, k.f9, k.f10, k.f11, k.f12, k.f13, k.f14, k.f15, k.f16, k.f17, k.f18, k.f19, k.f20, k.f21, k.f22, k.f23, k.f24, k.f25, k.f26⟩⟩
    | 9, _, ho, hL =>
     have ho2 := ho
     simp only [qz1, qz2, qz3, qz4] at ho
     subst ho
     refine wpOp_step ho2 (fun K hK => ?_)
     obtain rfl := k.f7 (hd ⟨7, .guard⟩ (by simp) rfl)
     go_simp
     exact hK _ _ ⟨_, _, _, _, _, _, _, _, _, _, _, _, _, _, _, _, _, _, _, _, _, _, _, _, _, _, _, rfl, ⟨k.wf, k.f0, k.f1, k.f2, k.f3, k.f4, k.f5, k.f6, k.f7, k.f8, fun _ => rfl, k.f10, k.f11, k.f12, k.f13, k.f14, k.f15, k.f16, k.f17, k.f18, k.f19, k.f20, k.f21, k.f22, k.f23, k.f24, k.f25, k.f26⟩⟩
    | 10, _, ho, hL =>
     have ho2 := ho
     simp only [qz1, qz2, qz3, qz4] at ho
     subst ho
     refine wpOp_step ho2 (fun K hK => ?_)
     obtain rfl := k.f9 (hd ⟨9, .data⟩ (by simp) rfl)
     obtain rfl := k.f7 (hd ⟨7, .guard⟩ (by simp) rfl)
     go_simp
     exact hK _ _ ⟨_, _, _, _, _, _, _, _, _, _, _, _, _, _, _, _, _, _, _, _, _, _, _, _, _, _, _, rfl, ⟨k.wf, k.f0, k.f1, k.f2, k.f3, k.f4, k.f5, k.f6, k.f7, k.f8, k.f9, fun _ => rfl, k.f11, k.f12, k.f13, k.f14, k.f15, k.f16, k.f17, k.f18, k.f19, k.f20, k.f21, k.f22, k.f23, k.f24, k.f25, k.f26⟩⟩
    | 11, _, ho, hL =>
     have ho2 := ho
     simp only [qz1, qz2, qz3, qz4] at ho
     subst ho
     refine wpOp_step ho2 (fun K hK => ?_)
     obtain rfl := k.f8 (hd ⟨8, .data⟩ (by simp) rfl)
     obtain rfl := k.f10 (hd ⟨10, .data⟩ (by simp) rfl)
     obtain rfl := k.f7 (hd ⟨7, .guard⟩ (by simp) rfl)
     go_simp
     exact hK _ _ ⟨_, _, _, _, _, _, _, _, _, _, _, _, _, _, _, _, _, _, _, _, _, _, _, _, _, _, _, rfl, ⟨k.wf, k.f0, k.f1, k.f2, k.f3, k.f4, k.f5, k.f6, k.f7, k.f8, k.f9, k.f10, fun _ => rfl, k.f12, k.f13, k.f14, k.f15, k.f16, k.f17, k.f18, k.f19, k.f20, k.f21, k.f22, k.f23, k.f24, k.f25, k.f26⟩⟩
    | 12, _, ho, hL =>
     have ho2 := ho
     simp only [qz1, qz2, qz3, qz4] at ho
     subst ho
     refine wpOp_step ho2 (fun K hK => ?_)
     obtain rfl := k.f7 (hd ⟨7, .data⟩ (by simp) rfl)
     obtain rfl := k.f11 (hd ⟨11, .data⟩ (by simp) rfl)
     go_simp
     exact hK _ _ ⟨_, _, _, _, _, _, _, _, _, _, _, _, _, _, _, _, _, _, _, _, _, _, _, _, _, _, _, rfl, ⟨k.wf, k.f0, k.f1, k.f2, k.f3, k.f4, k.f5, k.f6, k.f7, k.f8, k.f9, k.f10, k.f11, fun _ => rfl, k.f13, k.f14, k.f15, k.f16, k.f17, k.f18, k.f19, k.f20, k.f21, k.f22, k.f23, k.f24, k.f25, k.f26⟩⟩
    | 13, _, ho, hL =>
     have ho2 := ho
     simp only [qz1, qz2, qz3, qz4] at ho
     subst ho
     refine wpOp_step ho2 (fun K hK => ?_)
     obtain rfl := k.f12 (hd ⟨12, .data⟩ (by simp) rfl)
     go_simp
     exact hK _ _ ⟨_, _, _, _, _, _, _, _, _, _, _, _, _, _, _, _, _, _, _, _, _, _, _, _, _, _, _, rfl, ⟨k.wf, k.f0, k.f1, k.f2, k.f3, k.f4, k.f5, k.f6, k.f7, k.f8, k.f9, k.f10, k.f11, k.f12, fun _ => rfl, k.f14, k.f15, k.f16, k.f17, k.f18, k.f19, k.f20, k.f21, k.f22, k.f23, k.f24, k.f25, k.f26⟩⟩
    | 14, _, ho, hL =>
     have ho2 := ho
     simp only [qz1, qz2, qz3, qz4] at ho
     subst ho
     refine wpOp_step ho2 (fun K hK => ?_)
     obtain rfl := k.f13 (hd ⟨13, .guard⟩ (by simp) rfl)
     go_simp
     exact hK _ _ ⟨_, _, _, _, _, _, _, _, _, _, _, _, _, _, _, _, _, _, _, _, _, _, _, _, _, _, _, rfl, ⟨k.wf, k.f0, k.f1, k.f2, k.f3, k.f4, k.f5, k.f6, k.f7, k.f8, k.f9, k.f10, k.f11, k.f12, k.f13, fun _ => rfl, k.f15, k.f16, k.f17, k.f18, k.f19, k.f20, k.f21, k.f22, k.f23, k.f24, k.f25, k.f26⟩⟩
    | 15, _, ho, hL =>
     have ho2 := ho
     simp only [qz1, qz2, qz3, qz4] at ho
     subst ho
     refine wpOp_step ho2 (fun K hK => ?_)
     obtain rfl := k.f13 (hd ⟨13, .guard⟩ (by simp) rfl)
     go_simp
     exact hK _ _ ⟨_, _, _, _, _, _, _, _, _, _, _, _, _, _, _, _, _, _, _, _, _, _, _, _, _, _, _, rfl, ⟨k.wf, k.f0, k.f1, k.f2, k.f3, k.f4, k.f5, k.f6, k.f7, k.f8, k.f9, k.f10, k.f11, k.f12, k.f13, k.f14, fun _ => rfl, k.f16, k.f17, k.f18, k.f19, k.f20, k.f21, k.f22, k.f23, k.f24, k.f25, k.f26⟩⟩
    | 16, _, ho, hL =>
     have ho2 := ho
     simp only [qz1, qz2, qz3, qz4] at ho
     subst ho
     refine wpOp_step ho2 (fun K hK => ?_)
     obtain rfl := k.f14 (hd ⟨14, .data⟩ (by simp) rfl)
     obtain rfl := k.f15 (hd ⟨15, .data⟩ (by simp) rfl)
     obtain rfl := k.f13 (hd ⟨13, .guard⟩ (by simp) rfl)
     go_simp
     exact hK _ _ ⟨_, _, _, _, _, _, _, _, _, _, _, _, _, _, _, _, _, _, _, _, _, _, _, _, _, _, _, rfl, ⟨k.wf, k.f0, k.f1, k.f2, k.f3, k.f4, k.f5, k.f6, k.f7, k.f8, k.f9, k.f10, k.f11, k.f12, k.f13, k.f14, k.f15, fun _ => rfl, k.f17, k.f18, k.f19, k.f20, k.f21, k.f22, k.f23, k.f24, k.f25, k.f26⟩⟩
    | 17, _, ho, hL =>
     have ho2 := ho
     simp only [qz1, qz2, qz3, qz4] at ho
     subst ho
     refine wpOp_step ho2 (fun K hK => ?_)
     obtain rfl := k.f16 (hd ⟨16, .data⟩ (by simp) rfl)
     obtain rfl := k.f13 (hd ⟨13, .guard⟩ (by simp) rfl)
     go_simp
     exact hK _ _ ⟨_, _, _, _, _, _, _, _, _, _, _, _, _, _, _, _, _, _, _, _, _, _, _, _, _, _, _, rfl, ⟨k.wf, k.f0, k.f1, k.f2, k.f3, k.f4, k.f5, k.f6, k.f7, k.f8, k.f9, k.f10, k.f11, k.f12, k.f13, k.f14, k.f15, k.f16, fun _ => rfl, k.f18, k.f19, k.f20, k.f21, k.f22, k.f23, k.f24, k.f25, k.f26⟩⟩
    | 18, _, ho, hL =>
     have ho2 := ho
     simp only [qz1, qz2, qz3, qz4] at ho
     subst ho
     refine wpOp_step ho2 (fun K hK => ?_)
     obtain rfl := k.f17 (hd ⟨17, .data⟩ (by simp) rfl)
     obtain rfl := k.f13 (hd ⟨13, .guard⟩ (by simp) rfl)
     go_simp
     exact hK _ _ ⟨_, _, _, _, _, _, _, _, _, _, _, _, _, _, _, _, _, _, _, _, _, _, _, _, _, _, _, rfl, ⟨k.wf, k.f0, k.f1, k.f2, k.f3, k.f4, k.f5, k.f6, k.f7, k.f8, k.f9, k.f10, k.f11, k.f12, k.f13, k.f14, k.f15, k.f16, k.f17, fun _ => rfl, k.f19, k.f20, k.f21, k.f22, k.f23, k.f24, k.f25, k.f26⟩⟩
    | 19, _, ho, hL =>
     have ho2 := ho
     simp only [qz1, qz2, qz3, qz4] at ho
     subst ho
     refine wpOp_step ho2 (fun K hK => ?_)
     obtain rfl := k.f13 (hd ⟨13, .guard⟩ (by simp) rfl)
     go_simp
     exact hK _ _ ⟨_, _, _, _, _, _, _, _, _, _, _, _, _, _, _, _, _, _, _, _, _, _, _, _, _, _, _, rfl, ⟨k.wf, k.f0, k.f1, k.f2, k.f3, k.f4, k.f5, k.f6, k.f7, k.f8, k.f9, k.f10, k.f11, k.f12, k.f13, k.f14, k.f15, k.f16, k.f17, k.f18, fun _ => rfl, k.f20, k.f21, k.f22, k.f23, k.f24, k.f25, k.f26⟩⟩
    | 20, _, ho, hL =>
     have ho2 := ho
     simp only [qz1, qz2, qz3, qz4] at ho
     subst ho
     refine wpOp_step ho2 (fun K hK => ?_)
     obtain rfl := k.f13 (hd ⟨13, .guard⟩ (by simp) rfl)
     go_simp
     exact hK _ _ ⟨_, _, _, _, _, _, _, _, _, _, _, _, _, _, _, _, _, _, _, _, _, _, _, _, _, _, _, rfl, ⟨k.wf, k.f0, k.f1, k.f2, k.f3, k.f4, k.f5, k.f6, k.f7, k.f8, k.f9, k.f10, k.f11, k.f12, k.f13, k.f14, k.f15, k.f16, k.f17, k.f18, k.f19, fun _ => rfl, k.f21, k.f22, k.f23, k.f24, k.f25, k.f26⟩⟩
    | 21, _, ho, hL =>
     have ho2 := ho
     simp only [qz1, qz2, qz3, qz4] at ho
     subst ho
     refine wpOp_step ho2 (fun K hK => ?_)
     obtain rfl := k.f19 (hd ⟨19, .data⟩ (by simp) rfl)
     obtain rfl := k.f20 (hd ⟨20, .data⟩ (by simp) rfl)
     obtain rfl := k.f13 (hd ⟨13, .guard⟩ (by simp) rfl)
     go_simp
     exact hK _ _ ⟨_, _, _, _, _, _, _, _, _, _, _, _, _, _, _, _, _, _, _, _, _, _, _, _, _, _, _, rfl, ⟨k.wf, k.f0, k.f1, k.f2, k.f3, k.f4, k.f5, k.f6, k.f7, k.f8, k.f9, k.f10, k.f11, k.f12, k.f13, k.f14, k.f15, k.f16, k.f17, k.f18, k.f19, k.f20, fun _ => rfl, k.f22, k.f23, k.f24, k.f25, k.f26⟩⟩
    | 22, _, ho, hL =>
     have ho2 := ho
     simp only [qz1, qz2, qz3, qz4] at ho
     subst ho
     refine wpOp_step ho2 (fun K hK => ?_)
     obtain rfl := k.f21 (hd ⟨21, .data⟩ (by simp) rfl)
     obtain rfl := k.f13 (hd ⟨13, .guard⟩ (by simp) rfl)
     go_simp
     exact hK _ _ ⟨_, _, _, _, _, _, _, _, _, _, _, _, _, _, _, _, _, _, _, _, _, _, _, _, _, _, _, rfl, ⟨k.wf, k.f0, k.f1, k.f2, k.f3, k.f4, k.f5, k.f6, k.f7, k.f8, k.f9, k.f10, k.f11, k.f12, k.f13, k.f14, k.f15, k.f16, k.f17, k.f18, k.f19, k.f20, k.f21, fun _ => rfl, k.f23, k.f24, k.f25, k.f26⟩⟩
    | 23, _, ho, hL =>
     have ho2 := ho
     simp only [qz1, qz2, qz3, qz4] at ho
     subst ho
     refine wpOp_step ho2 (fun K hK => ?_)
     obtain rfl := k.f22 (hd ⟨22, .data⟩ (by simp) rfl)
     obtain rfl := k.f13 (hd ⟨13, .guard⟩ (by simp) rfl)
     go_simp
     exact hK _ _ ⟨_, _, _, _, _, _, _, _, _, _, _, _, _, _, _, _, _, _, _, _, _, _, _, _, _, _, _, rfl, ⟨k.wf, k.f0, k.f1, k.f2, k.f3, k.f4, k.f5, k.f6, k.f7, k.f8, k.f9, k.f10, k.f11, k.f12, k.f13, k.f14, k.f15, k.f16, k.f17, k.f18, k.f19, k.f20, k.f21, k.f22, fun _ => rfl, k.f24, k.f25, k.f26⟩⟩
    | 24, _, ho, hL =>
     have ho2 := ho
     simp only [qz1, qz2, qz3, qz4] at ho
     subst ho
     refine wpOp_step ho2 (fun K hK => ?_)
     obtain rfl := k.f18 (hd ⟨18, .data⟩ (by simp) rfl)
     obtain rfl := k.f23 (hd ⟨23, .data⟩ (by simp) rfl)
     obtain rfl := k.f13 (hd ⟨13, .guard⟩ (by simp) rfl)
     go_simp
     exact hK _ _ ⟨_, _, _, _, _, _, _, _, _, _, _, _, _, _, _, _, _, _, _, _, _, _, _, _, _, _, _, rfl, ⟨k.wf, k.f0, k.f1, k.f2, k.f3, k.f4, k.f5, k.f6, k.f7, k.f8, k.f9, k.f10, k.f11, k.f12, k.f13, k.f14, k.f15, k.f16, k.f17, k.f18, k.f19, k.f20, k.f21, k.f22, k.f23, fun _ => rfl, k.f25, k.f26⟩⟩
    | 25, _, ho, hL =>
     have ho2 := ho
     simp only [qz1, qz2, qz3, qz4] at ho
     subst ho
     refine wpOp_step ho2 (fun K hK => ?_)
     obtain rfl := k.f24 (hd ⟨24, .data⟩ (by simp) rfl)
     obtain rfl := k.f13 (hd ⟨13, .guard⟩ (by simp) rfl)
     go_simp
     exact hK _ _ ⟨_, _, _, _, _, _, _, _, _, _, _, _, _, _, _, _, _, _, _, _, _, _, _, _, _, _, _, rfl, ⟨k.wf, k.f0, k.f1, k.f2, k.f3, k.f4, k.f5, k.f6, k.f7, k.f8, k.f9, k.f10, k.f11, k.f12, k.f13, k.f14, k.f15, k.f16, k.f17, k.f18, k.f19, k.f20, k.f21, k.f22, k.f23, k.f24, fun _ => rfl, k.f26⟩⟩
    | 26, _, ho, hL =>
     have ho2 := ho
     simp only [qz1, qz2, qz3, qz4] at ho
     subst ho
     refine wpOp_step ho2 (fun K hK => ?_)
     obtain rfl := k.f13 (hd ⟨13, .data⟩ (by simp) rfl)
     obtain rfl := k.f25 (hd ⟨25, .data⟩ (by simp) rfl)
     go_simp
     exact hK _ _ ⟨_, _, _, _, _, _, _, _, _, _, _, _, _, _, _, _, _, _, _, _, _, _, _, _, _, _, _, rfl, ⟨k.wf, k.f0, k.f1, k.f2, k.f3, k.f4, k.f5, k.f6, k.f7, k.f8, k.f9, k.f10, k.f11, k.f12, k.f13, k.f14, k.f15, k.f16, k.f17, k.f18, k.f19, k.f20, k.f21, k.f22, k.f23, k.f24, k.f25, fun _ => rfl⟩⟩
    | n + 27, h, _, _ => omega
   ·intro L a w hL hJ
    obtain ⟨v10, v11, v12, v13, v14, v15, v16, v17, v18, v19, v20, v21, v22, v23, v24, v25, v26, v27, v28, v29, v30, v31, v32, v33, v34, v35, v36, rfl, k⟩ := hJ
    obtain rfl := k.f0 (hL 0 (by decide))
    obtain rfl := k.f1 (hL 1 (by decide))
    obtain rfl := k.f2 (hL 2 (by decide))
    obtain rfl := k.f3 (hL 3 (by decide))
    obtain rfl := k.f4 (hL 4 (by decide))
    obtain rfl := k.f5 (hL 5 (by decide))
    obtain rfl := k.f6 (hL 6 (by decide))
    obtain rfl := k.f7 (hL 7 (by decide))
    obtain rfl := k.f8 (hL 8 (by decide))
    obtain rfl := k.f9 (hL 9 (by decide))
    obtain rfl := k.f10 (hL 10 (by decide))
    obtain rfl := k.f11 (hL 11 (by decide))
    obtain rfl := k.f12 (hL 12 (by decide))
    obtain rfl := k.f13 (hL 13 (by decide))
    obtain rfl := k.f14 (hL 14 (by decide))
    obtain rfl := k.f15 (hL 15 (by decide))
    obtain rfl := k.f16 (hL 16 (by decide))
    obtain rfl := k.f17 (hL 17 (by decide))
    obtain rfl := k.f18 (hL 18 (by decide))
    obtain rfl := k.f19 (hL 19 (by decide))
    obtain rfl := k.f20 (hL 20 (by decide))
    obtain rfl := k.f21 (hL 21 (by decide))
    obtain rfl := k.f22 (hL 22 (by decide))
    obtain rfl := k.f23 (hL 23 (by decide))
    obtain rfl := k.f24 (hL 24 (by decide))
    obtain rfl := k.f25 (hL 25 (by decide))
    obtain rfl := k.f26 (hL 26 (by decide))
    have hbw := k.wf
    dsimp only
    clear k hL
    go_wp2
    refine bodyPost_ret (v := .tuple #[.slice none 0 0, .slice none 0 0, .bool false]) (by simp [results, Tryz.results93, go_sem]) rfl ?_
    exact HalvP.no E.out hbw
  ·by_cases hj2 : (b.length : Int) ≤ j
   ·have E := Lib.hid (halve_b (b := b) (j := j) (by omega))
    have hj0 : decide (j < 0) = false := decide_eq_false hj
    have hj1 : decide ((b.length : Int) ≤ j) = true := decide_eq_true hj2
    clear hv h hj hj2
    generalize b.length = n at HV hn hj1 ⊢
    go_enter Tryz.func93, Tryz.ntmps93
    go_upto_region 1 with fail
    refine wp_region_inv (by kernel_rfl) (by kernel_rfl) (fun L a w => ∃ v10 v11 v12 v13 v14 v15 v16 v17 v18 v19 v20 v21 v22 v23 v24 v25 v26 v27 v28 v29 v30 v31 v32 v33 v34 v35 v36 : Value, a = { tmps := #[(.slice o n cap), (.int .i64 j), undef, undef, (.slice none 0 0), (.slice none 0 0), (.bool false), undef, undef, undef, v10, v11, v12, v13, v14, v15, v16, v17, v18, v19, v20, v21, v22, v23, v24, v25, v26, v27, v28, v29, v30, v31, v32, v33, v34, v35, v36, undef, undef, undef, undef, undef, undef, undef, undef, undef, undef, undef, undef, undef, undef, undef, undef, undef, undef, undef, undef, undef], defers := [] } ∧ HvcK w0 o n cap j L v10 v11 v12 v13 v14 v15 v16 v17 v18 v19 v20 v21 v22 v23 v24 v25 v26 v27 v28 v29 v30 v31 v32 v33 v34 v35 v36 w) ?_ ?_ ?_
    ·exact ⟨_, _, _, _, _, _, _, _, _, _, _, _, _, _, _, _, _, _, _, _, _, _, _, _, _, _, _, rfl, ⟨hS0, nofun, nofun, nofun, nofun, nofun, nofun, nofun, nofun, nofun, nofun, nofun, nofun, nofun, nofun, nofun, nofun, nofun, nofun, nofun, nofun, nofun, nofun, nofun, nofun, nofun, nofun, nofun⟩⟩
    ·intro iq oq ho L a w hL hd hJ
     obtain ⟨v10, v11, v12, v13, v14, v15, v16, v17, v18, v19, v20, v21, v22, v23, v24, v25, v26, v27, v28, v29, v30, v31, v32, v33, v34, v35, v36, rfl, k⟩ := hJ
     have hiq : iq < 27 := by have := (Array.getElem?_eq_some_iff.1 ho).1; simpa using this
     match iq, hiq, ho, hL with
     | 0, _, ho, hL =>
      have ho2 := ho
      simp only [qz1, qz2, qz3, qz4] at ho
      subst ho
      refine wpOp_step ho2 (fun K hK => ?_)
      go_simp
      exact hK _ _ ⟨_, _, _, _, _, _, _, _, _, _, _, _, _, _, _, _, _, _, _, _, _, _, _, _, _, _, _, rfl, ⟨k.wf, fun _ => rfl, k.f1, k.f2, k.f3, k.f4, k.f5, k.f6, k.f7, k.f8, k.f9, k.f10, k.f11, k.f12, k.f13, k.f14, k.f15, k.f16, k.f17, k.f18, k.f19, k.f20, k.f21, k.f22, k.f23, k.f24, k.f25, k.f26⟩⟩
     | 1, _, ho, hL =>
      have ho2 := ho
      simp only [qz1, qz2, qz3, qz4] at ho
      subst ho
      refine wpOp_step ho2 (fun K hK => ?_)
      obtain rfl := k.f0 (hd ⟨0, .data⟩ (by simp) rfl)
      have hcall := HV.out w k.wf
      go_simp
      refine hcall.mono ?_
      rintro e X ⟨rfl, hb⟩
      exact hK _ _ ⟨_, _, _, _, _, _, _, _, _, _, _, _, _, _, _, _, _, _, _, _, _, _, _, _, _, _, _, rfl, ⟨k.wf.trans (hb.mono k.wf.size), k.f0, fun _ => rfl, k.f2, k.f3, k.f4, k.f5, k.f6, k.f7, k.f8, k.f9, k.f10, k.f11, k.f12, k.f13, k.f14, k.f15, k.f16, k.f17, k.f18, k.f19, k.f20, k.f21, k.f22, k.f23, k.f24, k.f25, k.f26⟩⟩
     | 2, _, ho, hL =>
      have ho2 := ho
      simp only [qz1, qz2, qz3, qz4] at ho
      subst ho
      refine wpOp_step ho2 (fun K hK => ?_)
      obtain rfl := k.f1 (hd ⟨1, .data⟩ (by simp) rfl)
      go_simp
      exact hK _ _ ⟨_, _, _, _, _, _, _, _, _, _, _, _, _, _, _, _, _, _, _, _, _, _, _, _, _, _, _, rfl, ⟨k.wf, k.f0, k.f1, fun _ => rfl, k.f3, k.f4, k.f5, k.f6, k.f7, k.f8, k.f9, k.f10, k.f11, k.f12, k.f13, k.f14, k.f15, k.f16, k.f17, k.f18, k.f19, k.f20, k.f21, k.f22, k.f23, k.f24, k.f25, k.f26⟩⟩
     | 3, _, ho, hL =>
      have ho2 := ho
      simp only [qz1, qz2, qz3, qz4] at ho
      subst ho
      refine wpOp_step ho2 (fun K hK => ?_)
      obtain rfl := k.f2 (hd ⟨2, .data⟩ (by simp) rfl)
      go_simp
      exact hK _ _ ⟨_, _, _, _, _, _, _, _, _, _, _, _, _, _, _, _, _, _, _, _, _, _, _, _, _, _, _, rfl, ⟨k.wf, k.f0, k.f1, k.f2, fun _ => rfl, k.f4, k.f5, k.f6, k.f7, k.f8, k.f9, k.f10, k.f11, k.f12, k.f13, k.f14, k.f15, k.f16, k.f17, k.f18, k.f19, k.f20, k.f21, k.f22, k.f23, k.f24, k.f25, k.f26⟩⟩
     | 4, _, ho, hL =>
      have ho2 := ho
      simp only [qz1, qz2, qz3, qz4] at ho
      subst ho
      refine wpOp_step ho2 (fun K hK => ?_)
      obtain rfl := k.f3 (hd ⟨3, .guard⟩ (by simp) rfl)
      go_simp
      exact hK _ _ ⟨_, _, _, _, _, _, _, _, _, _, _, _, _, _, _, _, _, _, _, _, _, _, _, _, _, _, _, rfl, ⟨k.wf, k.f0, k.f1, k.f2, k.f3, fun _ => rfl, k.f5, k.f6, k.f7, k.f8, k.f9, k.f10, k.f11, k.f12, k.f13, k.f14, k.f15, k.f16, k.f17, k.f18, k.f19, k.f20, k.f21, k.f22, k.f23, k.f24, k.f25, k.f26⟩⟩
     | 5, _, ho, hL =>
      have ho2 := ho
      simp only [qz1, qz2, qz3, qz4] at ho
      subst ho
      refine wpOp_step ho2 (fun K hK => ?_)
      obtain rfl := k.f4 (hd ⟨4, .data⟩ (by simp) rfl)
      obtain rfl := k.f3 (hd ⟨3, .guard⟩ (by simp) rfl)
      go_simp
      exact hK _ _ ⟨_, _, _, _, _, _, _, _, _, _, _, _, _, _, _, _, _, _, _, _, _, _, _, _, _, _, _, rfl, ⟨k.wf, k.f0, k.f1, k.f2, k.f3, k.f4, fun _ => rfl, k.f6, k.f7, k.f8, k.f9, k.f10, k.f11, k.f12, k.f13, k.f14, k.f15, k.f16, k.f17, k.f18, k.f19, k.f20, k.f21, k.f22, k.f23, k.f24, k.f25, k.f26⟩⟩
     | 6, _, ho, hL =>
      have ho2 := ho
      simp only [qz1, qz2, qz3, qz4] at ho
      subst ho
      refine wpOp_step ho2 (fun K hK => ?_)
      obtain rfl := k.f3 (hd ⟨3, .data⟩ (by simp) rfl)
      obtain rfl := k.f5 (hd ⟨5, .data⟩ (by simp) rfl)
      go_simp
      exact hK _ _ ⟨_, _, _, _, _, _, _, _, _, _, _, _, _, _, _, _, _, _, _, _, _, _, _, _, _, _, _, rfl, ⟨k.wf, k.f0, k.f1, k.f2, k.f3, k.f4, k.f5, fun _ => rfl, k.f7, k.f8, k.f9, k.f10, k.f11, k.f12, k.f13, k.f14, k.f15, k.f16, k.f17, k.f18, k.f19, k.f20, k.f21, k.f22, k.f23, k.f24, k.f25, k.f26⟩⟩
     | 7, _, ho, hL =>
      have ho2 := ho
      simp only [qz1, qz2, qz3, qz4] at ho
      subst ho
      refine wpOp_step ho2 (fun K hK => ?_)
      obtain rfl := k.f6 (hd ⟨6, .data⟩ (by simp) rfl)
      go_simp
      exact hK _ _ ⟨_, _, _, _, _, _, _, _, _, _, _, _, _, _, _, _, _, _, _, _, _, _, _, _, _, _, _, rfl, ⟨k.wf, k.f0, k.f1, k.f2, k.f3, k.f4, k.f5, k.f6, fun _ => rfl, k.f8, k.f9, k.f10, k.f11, k.f12, k.f13, k.f14, k.f15, k.f16, k.f17, k.f18, k.f19, k.f20, k.f21, k.f22, k.f23, k.f24, k.f25, k.f26⟩⟩
     | 8, _, ho, hL =>
      have ho2 := ho
      simp only [qz1, qz2, qz3, qz4] at ho
      subst ho
      refine wpOp_step ho2 (fun K hK => ?_)
      obtain rfl := k.f7 (hd ⟨7, .guard⟩ (by simp) rfl)
      go_simp
      exact hK _ _ ⟨_, _, _, _, _, _, _, _, _, _, _, _, _, _, _, _, _, _, _, _, _, _, _, _, _, _, _, rfl, ⟨k.wf, k.f0, k.f1, k.f2, k.f3, k.f4, k.f5, k.f6, k.f7, fun _ => rfl, k.f9, k.f10, k.f11, k.f12, k.f13, k.f14, k.f15, k.f16, k.f17, k.f18, k.f19, k.f20, k.f21, k.f22, k.f23, k.f24, k.f25, k.f26⟩⟩
     | 9, _, ho, hL =>
      have ho2 := ho
      simp only [qz1, qz2, qz3, qz4] at ho
      subst ho
      refine wpOp_step ho2 (fun K hK => ?_)
      obtain rfl := k.f7 (hd ⟨7, .guard⟩ (by simp) rfl)
      go_simp
      exact hK _ _ ⟨_, _, _, _, _, _, _, _, _, _, _, _, _, _, _, _, _, _, _, _, _, _, _, _, _, _, _, rfl, ⟨k.wf, k.f0, k.f1, k.f2, k.f3, k.f4, k.f5, k.f6, k.f7, k.f8, fun _ => rfl, k.f10, k.f11, k.f12, k.f13, k.f14, k.f15, k.f16, k.f17, k.f18, k.f19, k.f20, k.f21, k.f22, k.f23, k.f24, k.f25, k.f26⟩⟩
     | 10, _, ho, hL =>
      have ho2 := ho
      simp only [qz1, qz2, qz3, qz4] at ho
      subst ho
      refine wpOp_step ho2 (fun K hK => ?_)
      obtain rfl := k.f9 (hd ⟨9, .data⟩ (by simp) rfl)
      obtain rfl := k.f7 (hd ⟨7, .guard⟩ (by simp) rfl)
      go_simp
      exact hK _ _ ⟨_, _, _, _, _, _, _, _, _, _, _, _, _, _, _, _, _, _, _, _, _, _, _, _, _, _, _, rfl, ⟨k.wf, k.f0, k.f1, k.f2, k.f3, k.f4, k.f5, k.f6, k.f7, k.f8, k.f9, fun _ => rfl, k.f11, k.f12, k.f13, k.f14, k.f15, k.f16, k.f17, k.f18, k.f19, k.f20, k.f21, k.f22, k.f23, k.f24, k.f25, k.f26⟩⟩
     | 11, _, ho, hL =>
      have ho2 := ho
      simp only [qz1, qz2, qz3, qz4] at ho
      subst ho
      refine wpOp_step ho2 (fun K hK => ?_)
      obtain rfl := k.f8 (hd ⟨8, .data⟩ (by simp) rfl)
      obtain rfl := k.f10 (hd ⟨10, .data⟩ (by simp) rfl)
      obtain rfl := k.f7 (hd ⟨7, .guard⟩ (by simp) rfl)
      go_simp
      exact hK _ _ ⟨_, _, _, _, _, _, _, _, _, _, _, _, _, _, _, _, _, _, _, _, _, _, _, _, _, _, _, rfl, ⟨k.wf, k.f0, k.f1, k.f2, k.f3, k.f4, k.f5, k.f6, k.f7, k.f8, k.f9, k.f10, fun _ => rfl, k.f12, k.f13, k.f14, k.f15, k.f16, k.f17, k.f18, k.f19, k.f20, k.f21, k.f22, k.f23, k.f24, k.f25, k.f26⟩⟩
     | 12, _, ho, hL =>
      have ho2 := ho
      simp only [qz1, qz2, qz3, qz4] at ho
      subst ho
      refine wpOp_step ho2 (fun K hK => ?_)
      obtain rfl := k.f7 (hd ⟨7, .data⟩ (by simp) rfl)
      obtain rfl := k.f11 (hd ⟨11, .data⟩ (by simp) rfl)
      go_simp
      exact hK _ _ ⟨_, _, _, _, _, _, _, _, _, _, _, _, _, _, _, _, _, _, _, _, _, _, _, _, _, _, _, rfl, ⟨k.wf, k.f0, k.f1, k.f2, k.f3, k.f4, k.f5, k.f6, k.f7, k.f8, k.f9, k.f10, k.f11, fun _ => rfl, k.f13, k.f14, k.f15, k.f16, k.f17, k.f18, k.f19, k.f20, k.f21, k.f22, k.f23, k.f24, k.f25, k.f26⟩⟩
     | 13, _, ho, hL =>
      have ho2 := ho
      simp only [qz1, qz2, qz3, qz4] at ho
      subst ho
      refine wpOp_step ho2 (fun K hK => ?_)
      obtain rfl := k.f12 (hd ⟨12, .data⟩ (by simp) rfl)
      go_simp
      exact hK _ _ ⟨_, _, _, _, _, _, _, _, _, _, _, _, _, _, _, _, _, _, _, _, _, _, _, _, _, _, _, rfl, ⟨k.wf, k.f0, k.f1, k.f2, k.f3, k.f4, k.f5, k.f6, k.f7, k.f8, k.f9, k.f10, k.f11, k.f12, fun _ => rfl, k.f14, k.f15, k.f16, k.f17, k.f18, k.f19, k.f20, k.f21, k.f22, k.f23, k.f24, k.f25, k.f26⟩⟩
     | 14, _, ho, hL =>
      have ho2 := ho
      simp only [qz1, qz2, qz3, qz4] at ho
      subst ho
      refine wpOp_step ho2 (fun K hK => ?_)
      obtain rfl := k.f13 (hd ⟨13, .guard⟩ (by simp) rfl)
      go_simp
      exact hK _ _ ⟨_, _, _, _, _, _, _, _, _, _, _, _, _, _, _, _, _, _, _, _, _, _, _, _, _, _, _, rfl, ⟨k.wf, k.f0, k.f1, k.f2, k.f3, k.f4, k.f5, k.f6, k.f7, k.f8, k.f9, k.f10, k.f11, k.f12, k.f13, fun _ => rfl, k.f15, k.f16, k.f17, k.f18, k.f19, k.f20, k.f21, k.f22, k.f23, k.f24, k.f25, k.f26⟩⟩
     | 15, _, ho, hL =>
      have ho2 := ho
      simp only [qz1, qz2, qz3, qz4] at ho
      subst ho
      refine wpOp_step ho2 (fun K hK => ?_)
      obtain rfl := k.f13 (hd ⟨13, .guard⟩ (by simp) rfl)
      go_simp
      exact hK _ _ ⟨_, _, _, _, _, _, _, _, _, _, _, _, _, _, _, _, _, _, _, _, _, _, _, _, _, _, _, rfl, ⟨k.wf, k.f0, k.f1, k.f2, k.f3, k.f4, k.f5, k.f6, k.f7, k.f8, k.f9, k.f10, k.f11, k.f12, k.f13, k.f14, fun _ => rfl, k.f16, k.f17, k.f18, k.f19, k.f20, k.f21, k.f22, k.f23, k.f24, k.f25, k.f26⟩⟩
     | 16, _, ho, hL =>
      have ho2 := ho
      simp only [qz1, qz2, qz3, qz4] at ho
      subst ho
      refine wpOp_step ho2 (fun K hK => ?_)
      obtain rfl := k.f14 (hd ⟨14, .data⟩ (by simp) rfl)
      obtain rfl := k.f15 (hd ⟨15, .data⟩ (by simp) rfl)
      obtain rfl := k.f13 (hd ⟨13, .guard⟩ (by simp) rfl)
      go_simp
      exact hK _ _ ⟨_, _, _, _, _, _, _, _, _, _, _, _, _, _, _, _, _, _, _, _, _, _, _, _, _, _, _, rfl, ⟨k.wf, k.f0, k.f1, k.f2, k.f3, k.f4, k.f5, k.f6, k.f7, k.f8, k.f9, k.f10, k.f11, k.f12, k.f13, k.f14, k.f15, fun _ => rfl, k.f17, k.f18, k.f19, k.f20, k.f21, k.f22, k.f23, k.f24, k.f25, k.f26⟩⟩
     | 17, _, ho, hL =>
      have ho2 := ho
      simp only [qz1, qz2, qz3, qz4] at ho
      subst ho
      refine wpOp_step ho2 (fun K hK => ?_)
      obtain rfl := k.f16 (hd ⟨16, .data⟩ (by simp) rfl)
      obtain rfl := k.f13 (hd ⟨13, .guard⟩ (by simp) rfl)
      go_simp
      exact hK _ _ ⟨_, _, _, _, _, _, _, _, _, _, _, _, _, _, _, _, _, _, _, _, _, _, _, _, _, _, _, rfl, ⟨k.wf, k.f0, k.f1, k.f2, k.f3, k.f4, k.f5, k.f6, k.f7, k.f8, k.f9, k.f10, k.f11, k.f12, k.f13, k.f14, k.f15, k.f16, fun _ => rfl, k.f18, k.f19, k.f20, k.f21, k.f22, k.f23, k.f24, k.f25, k.f26⟩⟩
     | 18, _, ho, hL =>
      have ho2 := ho
      simp only [qz1, qz2, qz3, qz4] at ho
      subst ho
      refine wpOp_step ho2 (fun K hK => ?_)
      obtain rfl := k.f17 (hd ⟨17, .data⟩ (by simp) rfl)
      obtain rfl := k.f13 (hd ⟨13, .guard⟩ (by simp) rfl)
      go_simp
      exact hK _ _ ⟨_, _, _, _, _, _, _, _, _, _, _, _, _, _, _, _, _, _, _, _, _, _, _, _, _, _, _, rfl, ⟨k.wf, k.f0, k.f1, k.f2, k.f3, k.f4, k.f5, k.f6, k.f7, k.f8, k.f9, k.f10, k.f11, k.f12, k.f13, k.f14, k.f15, k.f16, k.f17, fun _ => rfl, k.f19, k.f20, k.f21, k.f22, k.f23, k.f24, k.f25, k.f26⟩⟩
     | 19, _, ho, hL =>
      have ho2 := ho
      simp only [qz1, qz2, qz3, qz4] at ho
      subst ho
      refine wpOp_step ho2 (fun K hK => ?_)
      obtain rfl := k.f13 (hd ⟨13, .guard⟩ (by simp) rfl)
      go_simp
      exact hK _ _ ⟨_, _, _, _, _, _, _, _, _, _, _, _, _, _, _, _, _, _, _, _, _, _, _, _, _, _, _, rfl, ⟨k.wf, k.f0, k.f1, k.f2, k.f3, k.f4, k.f5, k.f6, k.f7, k.f8, k.f9, k.f10, k.f11, k.f12, k.f13, k.f14, k.f15, k.f16, k.f17, k.f18, fun _ => rfl, k.f20, k.f21, k.f22, k.f23, k.f24, k.f25, k.f26⟩⟩
     | 20, _, ho, hL =>
      have ho2 := ho
      simp only [qz1, qz2, qz3, qz4] at ho
      subst ho
      refine wpOp_step ho2 (fun K hK => ?_)
      obtain rfl := k.f13 (hd ⟨13, .guard⟩ (by simp) rfl)
      go_simp
      exact hK _ _ ⟨_, _, _, _, _, _, _, _, _, _, _, _, _, _, _, _, _, _, _, _, _, _, _, _, _, _, _, rfl, ⟨k.wf, k.f0, k.f1, k.f2, k.f3, k.f4, k.f5, k.f6, k.f7, k.f8, k.f9, k.f10, k.f11, k.f12, k.f13, k.f14, k.f15, k.f16, k.f17, k.f18, k.f19, fun _ => rfl, k.f21, k.f22, k.f23, k.f24, k.f25, k.f26⟩⟩
     | 21, _, ho, hL =>
      have ho2 := ho
      simp only [qz1, qz2, qz3, qz4] at ho
      subst ho
      refine wpOp_step ho2 (fun K hK => ?_)
      obtain rfl := k.f19 (hd ⟨19, .data⟩ (by simp) rfl)
      obtain rfl := k.f20 (hd ⟨20, .data⟩ (by simp) rfl)
      obtain rfl := k.f13 (hd ⟨13, .guard⟩ (by simp) rfl)
      go_simp
      exact hK _ _ ⟨_, _, _, _, _, _, _, _, _, _, _, _, _, _, _, _, _, _, _, _, _, _, _, _, _, _, _, rfl, ⟨k.wf, k.f0, k.f1, k.f2, k.f3, k.f4, k.f5, k.f6, k.f7, k.f8, k.f9, k.f10, k.f11, k.f12, k.f13, k.f14, k.f15, k.f16, k.f17, k.f18, k.f19, k.f20, fun _ => rfl, k.f22, k.f23, k.f24, k.f25, k.f26⟩⟩
     | 22, _, ho, hL =>
      have ho2 := ho
      simp only [qz1, qz2, qz3, qz4] at ho
      subst ho
      refine wpOp_step ho2 (fun K hK => ?_)
      obtain rfl := k.f21 (hd ⟨21, .data⟩ (by simp) rfl)
      obtain rfl := k.f13 (hd ⟨13, .guard⟩ (by simp) rfl)
      go_simp
      exact hK _ _ ⟨_, _, _, _, _, _, _, _, _, _, _, _, _, _, _, _, _, _, _, _, _, _, _, _, _, _, _, rfl, ⟨k.wf, k.f0, k.f1, k.f2, k.f3, k.f4, k.f5, k.f6, k.f7, k.f8, k.f9, k.f10, k.f11, k.f12, k.f13, k.f14, k.f15, k.f16, k.f17, k.f18, k.f19, k.f20, k.f21, fun _ => rfl, k.f23, k.f24, k.f25, k.f26⟩⟩
     | 23, _, ho, hL =>
      have ho2 := ho
      simp only [qz1, qz2, qz3, qz4] at ho
      subst ho
      refine wpOp_step ho2 (fun K hK => ?_)
      obtain rfl := k.f22 (hd ⟨22, .data⟩ (by simp) rfl)
      obtain rfl := k.f13 (hd ⟨13, .guard⟩ (by simp) rfl)
      go_simp
      exact hK _ _ ⟨_, _, _, _, _, _, _, _, _, _, _, _, _, _, _, _, _, _, _, _, _, _, _, _, _, _, _, rfl, ⟨k.wf, k.f0, k.f1, k.f2, k.f3, k.f4, k.f5, k.f6, k.f7, k.f8, k.f9, k.f10, k.f11, k.f12, k.f13, k.f14, k.f15, k.f16, k.f17, k.f18, k.f19, k.f20, k.f21, k.f22, fun _ => rfl, k.f24, k.f25, k.f26⟩⟩
     | 24, _, ho, hL =>
      have ho2 := ho
      simp only [qz1, qz2, qz3, qz4] at ho
      subst ho
      refine wpOp_step ho2 (fun K hK => ?_)
      obtain rfl := k.f18 (hd ⟨18, .data⟩ (by simp) rfl)
      obtain rfl := k.f23 (hd ⟨23, .data⟩ (by simp) rfl)
      obtain rfl := k.f13 (hd ⟨13, .guard⟩ (by simp) rfl)
      go_simp
      exact hK _ _ ⟨_, _, _, _, _, _, _, _, _, _, _, _, _, _, _, _, _, _, _, _, _, _, _, _, _, _, _, rfl, ⟨k.wf, k.f0, k.f1, k.f2, k.f3, k.f4, k.f5, k.f6, k.f7, k.f8, k.f9, k.f10, k.f11, k.f12, k.f13, k.f14, k.f15, k.f16, k.f17, k.f18, k.f19, k.f20, k.f21, k.f22, k.f23, fun _ => rfl, k.f25, k.f26⟩⟩
     | 25, _, ho, hL =>
      have ho2 := ho
      simp only [qz1, qz2, qz3, qz4] at ho
      subst ho
      refine wpOp_step ho2 (fun K hK => ?_)
      obtain rfl := k.f24 (hd ⟨24, .data⟩ (by simp) rfl)
      obtain rfl := k.f13 (hd ⟨13, .guard⟩ (by simp) rfl)
      go_simp
      exact hK _ _ ⟨_, _, _, _, _, _, _, _, _, _, _, _, _, _, _, _, _, _, _, _, _, _, _, _, _, _, _, rfl, ⟨k.wf, k.f0, k.f1, k.f2, k.f3, k.f4, k.f5, k.f6, k.f7, k.f8, k.f9, k.f10, k.f11, k.f12, k.f13, k.f14, k.f15, k.f16, k.f17, k.f18, k.f19, k.f20, k.f21, k.f22, k.f23, k.f24, fun _ => rfl, k.f26⟩⟩
     | 26, _, ho, hL =>
      have ho2 := ho
      simp only [qz1, qz2, qz3, qz4] at ho
      subst ho
      refine wpOp_step ho2 (fun K hK => ?_)
      obtain rfl := k.f13 (hd ⟨13, .data⟩ (by simp) rfl)
      obtain rfl := k.f25 (hd ⟨25, .data⟩ (by simp) rfl)
      go_simp
      exact hK _ _ ⟨_, _, _, _, _, _, _, _, _, _, _, _, _, _, _, _, _, _, _, _, _, _, _, _, _, _, _, rfl, ⟨k.wf, k.f0, k.f1, k.f2, k.f3, k.f4, k.f5, k.f6, k.f7, k.f8, k.f9, k.f10, k.f11, k.f12, k.f13, k.f14, k.f15, k.f16, k.f17, k.f18, k.f19, k.f20, k.f21, k.f22, k.f23, k.f24, k.f25, fun _ => rfl⟩⟩
     | n + 27, h, _, _ => omega
    ·intro L a w hL hJ
     obtain ⟨v10, v11, v12, v13, v14, v15, v16, v17, v18, v19, v20, v21, v22, v23, v24, v25, v26, v27, v28, v29, v30, v31, v32, v33, v34, v35, v36, rfl, k⟩ := hJ
     obtain rfl := k.f0 (hL 0 (by decide))
     obtain rfl := k.f1 (hL 1 (by decide))
     obtain rfl := k.f2 (hL 2 (by decide))
     obtain rfl := k.f3 (hL 3 (by decide))
     obtain rfl := k.f4 (hL 4 (by decide))
     obtain rfl := k.f5 (hL 5 (by decide))
     obtain rfl := k.f6 (hL 6 (by decide))
     obtain rfl := k.f7 (hL 7 (by decide))
     obtain rfl := k.f8 (hL 8 (by decide))
     obtain rfl := k.f9 (hL 9 (by decide))
     obtain rfl := k.f10 (hL 10 (by decide))
     obtain rfl := k.f11 (hL 11 (by decide))
     obtain rfl := k.f12 (hL 12 (by decide))
     obtain rfl := k.f13 (hL 13 (by decide))
     obtain rfl := k.f14 (hL 14 (by decide))
     obtain rfl := k.f15 (hL 15 (by decide))
     obtain rfl := k.f16 (hL 16 (by decide))
     obtain rfl := k.f17 (hL 17 (by decide))
     obtain rfl := k.f18 (hL 18 (by decide))
     obtain rfl := k.f19 (hL 19 (by decide))
     obtain rfl := k.f20 (hL 20 (by decide))
     obtain rfl := k.f21 (hL 21 (by decide))
     obtain rfl := k.f22 (hL 22 (by decide))
     obtain rfl := k.f23 (hL 23 (by decide))
     obtain rfl := k.f24 (hL 24 (by decide))
     obtain rfl := k.f25 (hL 25 (by decide))
     obtain rfl := k.f26 (hL 26 (by decide))
     have hbw := k.wf
     dsimp only
     clear k hL
     go_wp2
     refine bodyPost_ret (v := .tuple #[.slice none 0 0, .slice none 0 0, .bool false]) (by simp [results, Tryz.results93, go_sem]) rfl ?_
     exact HalvP.no E.out hbw
   ·obtain ⟨kk, rfl⟩ : ∃ kk : Nat, j = (kk : Nat) := ⟨j.toNat, by omega⟩
    have hkl : kk < b.length := by omega
    obtain ⟨⟨lo, hi⟩, hk⟩ : ∃ v, b[kk]? = some v := ⟨_, List.getElem?_eq_getElem hkl⟩
    obtain ⟨g, off, rfl, hr⟩ := h (by intro e; rw [← List.length_eq_zero_iff, ivs_len] at e; omega)
    have HXA := Lib.hid (fun X (hX : Below w0.heap.size w0 X) => (show X.cell? ⟨g, off + kk * 2, none⟩ = some (.int .i64 lo) ∧ X.cell? ⟨g, off + kk * 2 + 1, none⟩ = some (.int .i64 hi) ∧ g < X.heap.size from by
     have hr2 := hr.keep hX
     have hq : (ivs b)[kk]? = some (iv2 (lo, hi)) := by simp [ivs, hk]
     exact ⟨hr2.c kk _ hq 0 _ rfl, hr2.c kk _ hq 1 _ rfl, hr2.lt⟩))
    have hj0 : decide ((kk : Int) < 0) = false := decide_eq_false hj
    have hj1 : decide ((b.length : Int) ≤ (kk : Int)) = false := decide_eq_false hj2
    have hvk := validI_un (all_at hv hk)
    have hsub : IntKind.i64.wrap (hi - lo) = hi - lo := IntWalk.i64_in _ (by omega)
    by_cases hw2 : hi - lo < 2
    ·have E := Lib.hid (halve_d hk (by show ¬ 2 ≤ hi - lo; omega))
     have hj1n : decide (b.length ≤ kk) = false := decide_eq_false (by omega)
     have hd2 : decide (hi - lo < 2) = true := decide_eq_true hw2
     clear hv hj hj2 hvk hw2 hr hk
     generalize b.length = n at HV hn hj1 hj1n hkl ⊢
     go_enter Tryz.func93, Tryz.ntmps93
     go_upto_region 1 with fail
     refine wp_region_inv (by kernel_rfl) (by kernel_rfl) (fun L a w => ∃ v10 v11 v12 v13 v14 v15 v16 v17 v18 v19 v20 v21 v22 v23 v24 v25 v26 v27 v28 v29 v30 v31 v32 v33 v34 v35 v36 : Value, a = { tmps := #[(.slice (some ⟨g, off, none⟩) n cap), (.int .i64 ((kk : Nat) : Int)), undef, undef, (.slice none 0 0), (.slice none 0 0), (.bool false), undef, undef, undef, v10, v11, v12, v13, v14, v15, v16, v17, v18, v19, v20, v21, v22, v23, v24, v25, v26, v27, v28, v29, v30, v31, v32, v33, v34, v35, v36, undef, undef, undef, undef, undef, undef, undef, undef, undef, undef, undef, undef, undef, undef, undef, undef, undef, undef, undef, undef, undef], defers := [] } ∧ HvdK w0 g off n cap kk lo hi L v10 v11 v12 v13 v14 v15 v16 v17 v18 v19 v20 v21 v22 v23 v24 v25 v26 v27 v28 v29 v30 v31 v32 v33 v34 v35 v36 w) ?_ ?_ ?_
     ·exact ⟨_, _, _, _, _, _, _, _, _, _, _, _, _, _, _, _, _, _, _, _, _, _, _, _, _, _, _, rfl, ⟨hS0, nofun, nofun, nofun, nofun, nofun, nofun, nofun, nofun, nofun, nofun, nofun, nofun, nofun, nofun, nofun, nofun, nofun, nofun, nofun, nofun, nofun, nofun, nofun, nofun, nofun, nofun, nofun⟩⟩
     ·intro iq oq ho L a w hL hd hJ
      obtain ⟨v10, v11, v12, v13, v14, v15, v16, v17, v18, v19, v20, v21, v22, v23, v24, v25, v26, v27, v28, v29, v30, v31, v32, v33, v34, v35, v36, rfl, k⟩ := hJ
      have hiq : iq < 27 := by have := (Array.getElem?_eq_some_iff.1 ho).1; simpa using this
      match iq, hiq, ho, hL with
      | 0, _, ho, hL =>
       have ho2 := ho
       simp only [qz1, qz2, qz3, qz4] at ho
       subst ho
       refine wpOp_step ho2 (fun K hK => ?_)
       go_simp
       exact hK _ _ ⟨_, _, _, _, _, _, _, _, _, _, _, _, _, _, _, _, _, _, _, _, _, _, _, _, _, _, _, rfl, ⟨k.wf, fun _ => rfl, k.f1, k.f2, k.f3, k.f4, k.f5, k.f6, k.f7, k.f8, k.f9, k.f10, k.f11, k.f12, k.f13, k.f14, k.f15, k.f16, k.f17, k.f18, k.f19, k.f20, k.f21, k.f22, k.f23, k.f24, k.f25, k.f26⟩⟩
      | 1, _, ho, hL =>
       have ho2 := ho
       simp only [qz1, qz2, qz3, qz4] at ho
       subst ho
       refine wpOp_step ho2 (fun K hK => ?_)
       obtain rfl := k.f0 (hd ⟨0, .data⟩ (by simp) rfl)
       have hcall := HV.out w k.wf
       go_simp
       refine hcall.mono ?_
       rintro e X ⟨rfl, hb⟩
       exact hK _ _ ⟨_, _, _, _, _, _, _, _, _, _, _, _, _, _, _, _, _, _, _, _, _, _, _, _, _, _, _, rfl, ⟨k.wf.trans (hb.mono k.wf.size), k.f0, fun _ => rfl, k.f2, k.f3, k.f4, k.f5, k.f6, k.f7, k.f8, k.f9, k.f10, k.f11, k.f12, k.f13, k.f14, k.f15, k.f16, k.f17, k.f18, k.f19, k.f20, k.f21, k.f22, k.f23, k.f24, k.f25, k.f26⟩⟩
      | 2, _, ho, hL =>
       have ho2 := ho
       simp only [qz1, qz2, qz3, qz4] at ho
       subst ho
       refine wpOp_step ho2 (fun K hK => ?_)
       obtain rfl := k.f1 (hd ⟨1, .data⟩ (by simp) rfl)
       go_simp
       exact hK _ _ ⟨_, _, _, _, _, _, _, _, _, _, _, _, _, _, _, _, _, _, _, _, _, _, _, _, _, _, _, rfl, ⟨k.wf, k.f0, k.f1, fun _ => rfl, k.f3, k.f4, k.f5, k.f6, k.f7, k.f8, k.f9, k.f10, k.f11, k.f12, k.f13, k.f14, k.f15, k.f16, k.f17, k.f18, k.f19, k.f20, k.f21, k.f22, k.f23, k.f24, k.f25, k.f26⟩⟩
      | 3, _, ho, hL =>
       have ho2 := ho
       simp only [qz1, qz2, qz3, qz4] at ho
       subst ho
       refine wpOp_step ho2 (fun K hK => ?_)
       obtain rfl := k.f2 (hd ⟨2, .data⟩ (by simp) rfl)
       go_simp
       exact hK _ _ ⟨_, _, _, _, _, _, _, _, _, _, _, _, _, _, _, _, _, _, _, _, _, _, _, _, _, _, _, rfl, ⟨k.wf, k.f0, k.f1, k.f2, fun _ => rfl, k.f4, k.f5, k.f6, k.f7, k.f8, k.f9, k.f10, k.f11, k.f12, k.f13, k.f14, k.f15, k.f16, k.f17, k.f18, k.f19, k.f20, k.f21, k.f22, k.f23, k.f24, k.f25, k.f26⟩⟩
      | 4, _, ho, hL =>
       have ho2 := ho
       simp only [qz1, qz2, qz3, qz4] at ho
       subst ho
       refine wpOp_step ho2 (fun K hK => ?_)
       obtain rfl := k.f3 (hd ⟨3, .guard⟩ (by simp) rfl)
       go_simp
       exact hK _ _ ⟨_, _, _, _, _, _, _, _, _, _, _, _, _, _, _, _, _, _, _, _, _, _, _, _, _, _, _, rfl, ⟨k.wf, k.f0, k.f1, k.f2, k.f3, fun _ => rfl, k.f5, k.f6, k.f7, k.f8, k.f9, k.f10, k.f11, k.f12, k.f13, k.f14, k.f15, k.f16, k.f17, k.f18, k.f19, k.f20, k.f21, k.f22, k.f23, k.f24, k.f25, k.f26⟩⟩
      | 5, _, ho, hL =>
       have ho2 := ho
       simp only [qz1, qz2, qz3, qz4] at ho
       subst ho
       refine wpOp_step ho2 (fun K hK => ?_)
       obtain rfl := k.f4 (hd ⟨4, .data⟩ (by simp) rfl)
       obtain rfl := k.f3 (hd ⟨3, .guard⟩ (by simp) rfl)
       go_simp
       exact hK _ _ ⟨_, _, _, _, _, _, _, _, _, _, _, _, _, _, _, _, _, _, _, _, _, _, _, _, _, _, _, rfl, ⟨k.wf, k.f0, k.f1, k.f2, k.f3, k.f4, fun _ => rfl, k.f6, k.f7, k.f8, k.f9, k.f10, k.f11, k.f12, k.f13, k.f14, k.f15, k.f16, k.f17, k.f18, k.f19, k.f20, k.f21, k.f22, k.f23, k.f24, k.f25, k.f26⟩⟩
      | 6, _, ho, hL =>
       have ho2 := ho
       simp only [qz1, qz2, qz3, qz4] at ho
       subst ho
       refine wpOp_step ho2 (fun K hK => ?_)
       obtain rfl := k.f3 (hd ⟨3, .data⟩ (by simp) rfl)
       obtain rfl := k.f5 (hd ⟨5, .data⟩ (by simp) rfl)
       go_simp
       exact hK _ _ ⟨_, _, _, _, _, _, _, _, _, _, _, _, _, _, _, _, _, _, _, _, _, _, _, _, _, _, _, rfl, ⟨k.wf, k.f0, k.f1, k.f2, k.f3, k.f4, k.f5, fun _ => rfl, k.f7, k.f8, k.f9, k.f10, k.f11, k.f12, k.f13, k.f14, k.f15, k.f16, k.f17, k.f18, k.f19, k.f20, k.f21, k.f22, k.f23, k.f24, k.f25, k.f26⟩⟩
      | 7, _, ho, hL =>
       have ho2 := ho
       simp only [qz1, qz2, qz3, qz4] at ho
       subst ho
       refine wpOp_step ho2 (fun K hK => ?_)
       obtain rfl := k.f6 (hd ⟨6, .data⟩ (by simp) rfl)
       go_simp
       exact hK _ _ ⟨_, _, _, _, _, _, _, _, _, _, _, _, _, _, _, _, _, _, _, _, _, _, _, _, _, _, _, rfl, ⟨k.wf, k.f0, k.f1, k.f2, k.f3, k.f4, k.f5, k.f6, fun _ => rfl, k.f8, k.f9, k.f10, k.f11, k.f12, k.f13, k.f14, k.f15, k.f16, k.f17, k.f18, k.f19, k.f20, k.f21, k.f22, k.f23, k.f24, k.f25, k.f26⟩⟩
      | 8, _, ho, hL =>
       have ho2 := ho
       simp only [qz1, qz2, qz3, qz4] at ho
       subst ho
       refine wpOp_step ho2 (fun K hK => ?_)
       obtain rfl := k.f7 (hd ⟨7, .guard⟩ (by simp) rfl)
       go_simp
       exact hK _ _ ⟨_, _, _, _, _, _, _, _, _, _, _, _, _, _, _, _, _, _, _, _, _, _, _, _, _, _, _, rfl, ⟨k.wf, k.f0, k.f1, k.f2, k.f3, k.f4, k.f5, k.f6, k.f7, fun _ => rfl, k.f9, k.f10, k.f11, k.f12, k.f13, k.f14, k.f15, k.f16, k.f17, k.f18, k.f19, k.f20, k.f21, k.f22, k.f23, k.f24, k.f25, k.f26⟩⟩
      | 9, _, ho, hL =>
       have ho2 := ho
       simp only [qz1, qz2, qz3, qz4] at ho
       subst ho
       refine wpOp_step ho2 (fun K hK => ?_)
       obtain rfl := k.f7 (hd ⟨7, .guard⟩ (by simp) rfl)
       go_simp
       exact hK _ _ ⟨_, _, _, _, _, _, _, _, _, _, _, _, _, _, _, _, _, _, _, _, _, _, _, _, _, _, _, rfl, ⟨k.wf, k.f0, k.f1, k.f2, k.f3, k.f4, k.f5, k.f6, k.f7, k.f8, fun _ => rfl, k.f10, k.f11, k.f12, k.f13, k.f14, k.f15, k.f16, k.f17, k.f18, k.f19, k.f20, k.f21, k.f22, k.f23, k.f24, k.f25, k.f26⟩⟩
      | 10, _, ho, hL =>
       have ho2 := ho
       simp only [qz1, qz2, qz3, qz4] at ho
       subst ho
       refine wpOp_step ho2 (fun K hK => ?_)
       obtain rfl := k.f9 (hd ⟨9, .data⟩ (by simp) rfl)
       obtain rfl := k.f7 (hd ⟨7, .guard⟩ (by simp) rfl)
       go_simp
       exact hK _ _ ⟨_, _, _, _, _, _, _, _, _, _, _, _, _, _, _, _, _, _, _, _, _, _, _, _, _, _, _, rfl, ⟨k.wf, k.f0, k.f1, k.f2, k.f3, k.f4, k.f5, k.f6, k.f7, k.f8, k.f9, fun _ => rfl, k.f11, k.f12, k.f13, k.f14, k.f15, k.f16, k.f17, k.f18, k.f19, k.f20, k.f21, k.f22, k.f23, k.f24, k.f25, k.f26⟩⟩
      | 11, _, ho, hL =>
       have ho2 := ho
       simp only [qz1, qz2, qz3, qz4] at ho
       subst ho
       refine wpOp_step ho2 (fun K hK => ?_)
       obtain rfl := k.f8 (hd ⟨8, .data⟩ (by simp) rfl)
       obtain rfl := k.f10 (hd ⟨10, .data⟩ (by simp) rfl)
       obtain rfl := k.f7 (hd ⟨7, .guard⟩ (by simp) rfl)
       go_simp
       exact hK _ _ ⟨_, _, _, _, _, _, _, _, _, _, _, _, _, _, _, _, _, _, _, _, _, _, _, _, _, _, _, rfl, ⟨k.wf, k.f0, k.f1, k.f2, k.f3, k.f4, k.f5, k.f6, k.f7, k.f8, k.f9, k.f10, fun _ => rfl, k.f12, k.f13, k.f14, k.f15, k.f16, k.f17, k.f18, k.f19, k.f20, k.f21, k.f22, k.f23, k.f24, k.f25, k.f26⟩⟩
      | 12, _, ho, hL =>
       have ho2 := ho
       simp only [qz1, qz2, qz3, qz4] at ho
       subst ho
       refine wpOp_step ho2 (fun K hK => ?_)
       obtain rfl := k.f7 (hd ⟨7, .data⟩ (by simp) rfl)
       obtain rfl := k.f11 (hd ⟨11, .data⟩ (by simp) rfl)
       go_simp
       exact hK _ _ ⟨_, _, _, _, _, _, _, _, _, _, _, _, _, _, _, _, _, _, _, _, _, _, _, _, _, _, _, rfl, ⟨k.wf, k.f0, k.f1, k.f2, k.f3, k.f4, k.f5, k.f6, k.f7, k.f8, k.f9, k.f10, k.f11, fun _ => rfl, k.f13, k.f14, k.f15, k.f16, k.f17, k.f18, k.f19, k.f20, k.f21, k.f22, k.f23, k.f24, k.f25, k.f26⟩⟩
      | 13, _, ho, hL =>
       have ho2 := ho
       simp only [qz1, qz2, qz3, qz4] at ho
       subst ho
       refine wpOp_step ho2 (fun K hK => ?_)
       obtain rfl := k.f12 (hd ⟨12, .data⟩ (by simp) rfl)
       go_simp
       exact hK _ _ ⟨_, _, _, _, _, _, _, _, _, _, _, _, _, _, _, _, _, _, _, _, _, _, _, _, _, _, _, rfl, ⟨k.wf, k.f0, k.f1, k.f2, k.f3, k.f4, k.f5, k.f6, k.f7, k.f8, k.f9, k.f10, k.f11, k.f12, fun _ => rfl, k.f14, k.f15, k.f16, k.f17, k.f18, k.f19, k.f20, k.f21, k.f22, k.f23, k.f24, k.f25, k.f26⟩⟩
      | 14, _, ho, hL =>
       have ho2 := ho
       simp only [qz1, qz2, qz3, qz4] at ho
       subst ho
       refine wpOp_step ho2 (fun K hK => ?_)
       obtain rfl := k.f13 (hd ⟨13, .guard⟩ (by simp) rfl)
       go_simp
       exact hK _ _ ⟨_, _, _, _, _, _, _, _, _, _, _, _, _, _, _, _, _, _, _, _, _, _, _, _, _, _, _, rfl, ⟨k.wf, k.f0, k.f1, k.f2, k.f3, k.f4, k.f5, k.f6, k.f7, k.f8, k.f9, k.f10, k.f11, k.f12, k.f13, fun _ => rfl, k.f15, k.f16, k.f17, k.f18, k.f19, k.f20, k.f21, k.f22, k.f23, k.f24, k.f25, k.f26⟩⟩
      | 15, _, ho, hL =>
       have ho2 := ho
       simp only [qz1, qz2, qz3, qz4] at ho
       subst ho
       refine wpOp_step ho2 (fun K hK => ?_)
       obtain rfl := k.f13 (hd ⟨13, .guard⟩ (by simp) rfl)
       go_simp
       exact hK _ _ ⟨_, _, _, _, _, _, _, _, _, _, _, _, _, _, _, _, _, _, _, _, _, _, _, _, _, _, _, rfl, ⟨k.wf, k.f0, k.f1, k.f2, k.f3, k.f4, k.f5, k.f6, k.f7, k.f8, k.f9, k.f10, k.f11, k.f12, k.f13, k.f14, fun _ => rfl, k.f16, k.f17, k.f18, k.f19, k.f20, k.f21, k.f22, k.f23, k.f24, k.f25, k.f26⟩⟩
      | 16, _, ho, hL =>
       have ho2 := ho
       simp only [qz1, qz2, qz3, qz4] at ho
       subst ho
       refine wpOp_step ho2 (fun K hK => ?_)
       obtain rfl := k.f14 (hd ⟨14, .data⟩ (by simp) rfl)
       obtain rfl := k.f15 (hd ⟨15, .data⟩ (by simp) rfl)
       obtain rfl := k.f13 (hd ⟨13, .guard⟩ (by simp) rfl)
       go_simp
       exact hK _ _ ⟨_, _, _, _, _, _, _, _, _, _, _, _, _, _, _, _, _, _, _, _, _, _, _, _, _, _, _, rfl, ⟨k.wf, k.f0, k.f1, k.f2, k.f3, k.f4, k.f5, k.f6, k.f7, k.f8, k.f9, k.f10, k.f11, k.f12, k.f13, k.f14, k.f15, fun _ => rfl, k.f17, k.f18, k.f19, k.f20, k.f21, k.f22, k.f23, k.f24, k.f25, k.f26⟩⟩
      | 17, _, ho, hL =>
       have ho2 := ho
       simp only [qz1, qz2, qz3, qz4] at ho
       subst ho
       refine wpOp_step ho2 (fun K hK => ?_)
       obtain rfl := k.f16 (hd ⟨16, .data⟩ (by simp) rfl)
       obtain rfl := k.f13 (hd ⟨13, .guard⟩ (by simp) rfl)
       go_simp
       exact hK _ _ ⟨_, _, _, _, _, _, _, _, _, _, _, _, _, _, _, _, _, _, _, _, _, _, _, _, _, _, _, rfl, ⟨k.wf, k.f0, k.f1, k.f2, k.f3, k.f4, k.f5, k.f6, k.f7, k.f8, k.f9, k.f10, k.f11, k.f12, k.f13, k.f14, k.f15, k.f16, fun _ => rfl, k.f18, k.f19, k.f20, k.f21, k.f22, k.f23, k.f24, k.f25, k.f26⟩⟩
      | 18, _, ho, hL =>
       have ho2 := ho
       simp only [qz1, qz2, qz3, qz4] at ho
       subst ho
       refine wpOp_step ho2 (fun K hK => ?_)
       obtain rfl := k.f17 (hd ⟨17, .data⟩ (by simp) rfl)
       obtain rfl := k.f13 (hd ⟨13, .guard⟩ (by simp) rfl)
       obtain ⟨x0, x1, gl⟩ := HXA.out w k.wf
       go_simp
       exact hK _ _ ⟨_, _, _, _, _, _, _, _, _, _, _, _, _, _, _, _, _, _, _, _, _, _, _, _, _, _, _, rfl, ⟨k.wf, k.f0, k.f1, k.f2, k.f3, k.f4, k.f5, k.f6, k.f7, k.f8, k.f9, k.f10, k.f11, k.f12, k.f13, k.f14, k.f15, k.f16, k.f17, fun _ => rfl, k.f19, k.f20, k.f21, k.f22, k.f23, k.f24, k.f25, k.f26⟩⟩
      | 19, _, ho, hL =>
       have ho2 := ho
       simp only [qz1, qz2, qz3, qz4] at ho
       subst ho
       refine wpOp_step ho2 (fun K hK => ?_)
       obtain rfl := k.f13 (hd ⟨13, .guard⟩ (by simp) rfl)
       go_simp
       exact hK _ _ ⟨_, _, _, _, _, _, _, _, _, _, _, _, _, _, _, _, _, _, _, _, _, _, _, _, _, _, _, rfl, ⟨k.wf, k.f0, k.f1, k.f2, k.f3, k.f4, k.f5, k.f6, k.f7, k.f8, k.f9, k.f10, k.f11, k.f12, k.f13, k.f14, k.f15, k.f16, k.f17, k.f18, fun _ => rfl, k.f20, k.f21, k.f22, k.f23, k.f24, k.f25, k.f26⟩⟩
      | 20, _, ho, hL =>
       have ho2 := ho
       simp only [qz1, qz2, qz3, qz4] at ho
       subst ho
       refine wpOp_step ho2 (fun K hK => ?_)
       obtain rfl := k.f13 (hd ⟨13, .guard⟩ (by simp) rfl)
       go_simp
       exact hK _ _ ⟨_, _, _, _, _, _, _, _, _, _, _, _, _, _, _, _, _, _, _, _, _, _, _, _, _, _, _, rfl, ⟨k.wf, k.f0, k.f1, k.f2, k.f3, k.f4, k.f5, k.f6, k.f7, k.f8, k.f9, k.f10, k.f11, k.f12, k.f13, k.f14, k.f15, k.f16, k.f17, k.f18, k.f19, fun _ => rfl, k.f21, k.f22, k.f23, k.f24, k.f25, k.f26⟩⟩
      | 21, _, ho, hL =>
       have ho2 := ho
       simp only [qz1, qz2, qz3, qz4] at ho
       subst ho
       refine wpOp_step ho2 (fun K hK => ?_)
       obtain rfl := k.f19 (hd ⟨19, .data⟩ (by simp) rfl)
       obtain rfl := k.f20 (hd ⟨20, .data⟩ (by simp) rfl)
       obtain rfl := k.f13 (hd ⟨13, .guard⟩ (by simp) rfl)
       go_simp
       exact hK _ _ ⟨_, _, _, _, _, _, _, _, _, _, _, _, _, _, _, _, _, _, _, _, _, _, _, _, _, _, _, rfl, ⟨k.wf, k.f0, k.f1, k.f2, k.f3, k.f4, k.f5, k.f6, k.f7, k.f8, k.f9, k.f10, k.f11, k.f12, k.f13, k.f14, k.f15, k.f16, k.f17, k.f18, k.f19, k.f20, fun _ => rfl, k.f22, k.f23, k.f24, k.f25, k.f26⟩⟩
      | 22, _, ho, hL =>
       have ho2 := ho
       simp only [qz1, qz2, qz3, qz4] at ho
       subst ho
       refine wpOp_step ho2 (fun K hK => ?_)
       obtain rfl := k.f21 (hd ⟨21, .data⟩ (by simp) rfl)
       obtain rfl := k.f13 (hd ⟨13, .guard⟩ (by simp) rfl)
       go_simp
       exact hK _ _ ⟨_, _, _, _, _, _, _, _, _, _, _, _, _, _, _, _, _, _, _, _, _, _, _, _, _, _, _, rfl, ⟨k.wf, k.f0, k.f1, k.f2, k.f3, k.f4, k.f5, k.f6, k.f7, k.f8, k.f9, k.f10, k.f11, k.f12, k.f13, k.f14, k.f15, k.f16, k.f17, k.f18, k.f19, k.f20, k.f21, fun _ => rfl, k.f23, k.f24, k.f25, k.f26⟩⟩
      | 23, _, ho, hL =>
       have ho2 := ho
       simp only [qz1, qz2, qz3, qz4] at ho
       subst ho
       refine wpOp_step ho2 (fun K hK => ?_)
       obtain rfl := k.f22 (hd ⟨22, .data⟩ (by simp) rfl)
       obtain rfl := k.f13 (hd ⟨13, .guard⟩ (by simp) rfl)
       obtain ⟨x0, x1, gl⟩ := HXA.out w k.wf
       go_simp
       exact hK _ _ ⟨_, _, _, _, _, _, _, _, _, _, _, _, _, _, _, _, _, _, _, _, _, _, _, _, _, _, _, rfl, ⟨k.wf, k.f0, k.f1, k.f2, k.f3, k.f4, k.f5, k.f6, k.f7, k.f8, k.f9, k.f10, k.f11, k.f12, k.f13, k.f14, k.f15, k.f16, k.f17, k.f18, k.f19, k.f20, k.f21, k.f22, fun _ => rfl, k.f24, k.f25, k.f26⟩⟩
      | 24, _, ho, hL =>
       have ho2 := ho
       simp only [qz1, qz2, qz3, qz4] at ho
       subst ho
       refine wpOp_step ho2 (fun K hK => ?_)
       obtain rfl := k.f18 (hd ⟨18, .data⟩ (by simp) rfl)
       obtain rfl := k.f23 (hd ⟨23, .data⟩ (by simp) rfl)
       obtain rfl := k.f13 (hd ⟨13, .guard⟩ (by simp) rfl)
       go_simp
       exact hK _ _ ⟨_, _, _, _, _, _, _, _, _, _, _, _, _, _, _, _, _, _, _, _, _, _, _, _, _, _, _, rfl, ⟨k.wf, k.f0, k.f1, k.f2, k.f3, k.f4, k.f5, k.f6, k.f7, k.f8, k.f9, k.f10, k.f11, k.f12, k.f13, k.f14, k.f15, k.f16, k.f17, k.f18, k.f19, k.f20, k.f21, k.f22, k.f23, fun _ => rfl, k.f25, k.f26⟩⟩
      | 25, _, ho, hL =>
       have ho2 := ho
       simp only [qz1, qz2, qz3, qz4] at ho
       subst ho
       refine wpOp_step ho2 (fun K hK => ?_)
       obtain rfl := k.f24 (hd ⟨24, .data⟩ (by simp) rfl)
       obtain rfl := k.f13 (hd ⟨13, .guard⟩ (by simp) rfl)
       go_simp
       exact hK _ _ ⟨_, _, _, _, _, _, _, _, _, _, _, _, _, _, _, _, _, _, _, _, _, _, _, _, _, _, _, rfl, ⟨k.wf, k.f0, k.f1, k.f2, k.f3, k.f4, k.f5, k.f6, k.f7, k.f8, k.f9, k.f10, k.f11, k.f12, k.f13, k.f14, k.f15, k.f16, k.f17, k.f18, k.f19, k.f20, k.f21, k.f22, k.f23, k.f24, fun _ => rfl, k.f26⟩⟩
      | 26, _, ho, hL =>
       have ho2 := ho
       simp only [qz1, qz2, qz3, qz4] at ho
       subst ho
       refine wpOp_step ho2 (fun K hK => ?_)
       obtain rfl := k.f13 (hd ⟨13, .data⟩ (by simp) rfl)
       obtain rfl := k.f25 (hd ⟨25, .data⟩ (by simp) rfl)
       go_simp
       exact hK _ _ ⟨_, _, _, _, _, _, _, _, _, _, _, _, _, _, _, _, _, _, _, _, _, _, _, _, _, _, _, rfl, ⟨k.wf, k.f0, k.f1, k.f2, k.f3, k.f4, k.f5, k.f6, k.f7, k.f8, k.f9, k.f10, k.f11, k.f12, k.f13, k.f14, k.f15, k.f16, k.f17, k.f18, k.f19, k.f20, k.f21, k.f22, k.f23, k.f24, k.f25, fun _ => rfl⟩⟩
      | n + 27, h, _, _ => omega
     ·intro L a w hL hJ
      obtain ⟨v10, v11, v12, v13, v14, v15, v16, v17, v18, v19, v20, v21, v22, v23, v24, v25, v26, v27, v28, v29, v30, v31, v32, v33, v34, v35, v36, rfl, k⟩ := hJ
      obtain rfl := k.f0 (hL 0 (by decide))
      obtain rfl := k.f1 (hL 1 (by decide))
      obtain rfl := k.f2 (hL 2 (by decide))
      obtain rfl := k.f3 (hL 3 (by decide))
      obtain rfl := k.f4 (hL 4 (by decide))
      obtain rfl := k.f5 (hL 5 (by decide))
      obtain rfl := k.f6 (hL 6 (by decide))
      obtain rfl := k.f7 (hL 7 (by decide))
      obtain rfl := k.f8 (hL 8 (by decide))
      obtain rfl := k.f9 (hL 9 (by decide))
      obtain rfl := k.f10 (hL 10 (by decide))
      obtain rfl := k.f11 (hL 11 (by decide))
      obtain rfl := k.f12 (hL 12 (by decide))
      obtain rfl := k.f13 (hL 13 (by decide))
      obtain rfl := k.f14 (hL 14 (by decide))
      obtain rfl := k.f15 (hL 15 (by decide))
      obtain rfl := k.f16 (hL 16 (by decide))
      obtain rfl := k.f17 (hL 17 (by decide))
      obtain rfl := k.f18 (hL 18 (by decide))
      obtain rfl := k.f19 (hL 19 (by decide))
      obtain rfl := k.f20 (hL 20 (by decide))
      obtain rfl := k.f21 (hL 21 (by decide))
      obtain rfl := k.f22 (hL 22 (by decide))
      obtain rfl := k.f23 (hL 23 (by decide))
      obtain rfl := k.f24 (hL 24 (by decide))
      obtain rfl := k.f25 (hL 25 (by decide))
      obtain rfl := k.f26 (hL 26 (by decide))
      have hbw := k.wf
      dsimp only
      clear k hL
      go_wp2
      refine bodyPost_ret (v := .tuple #[.slice none 0 0, .slice none 0 0, .bool false]) (by simp [results, Tryz.results93, go_sem]) rfl ?_
      exact HalvP.no E.out hbw
    ·have E : Hid (Fm.halve b (kk : Nat) = some (b.set kk (lo, (lo + hi) / 2), b.set kk ((lo + hi) / 2, hi))) := Lib.hid (halve_e hk (by show 2 ≤ hi - lo; omega) hv)
     have hj1n : decide (b.length ≤ kk) = false := decide_eq_false (by omega)
     have hd2 : decide (hi - lo < 2) = false := decide_eq_false hw2
     have HMID := Lib.hid (fun X => mid108 lo hi X (all_at hv hk))
     have HR := Lib.hid hr
     have HK := Lib.hid hk
     clear hv hj hj2 hvk hw2 hr hk
     generalize hbn : b.length = n at HV hn hj1 hj1n hkl ⊢
     have HBN := Lib.hid hbn
     clear hbn
     obtain ⟨i0, hi0, hz0, hz1, hz2⟩ := info_parts info79
     go_enter Tryz.func93, Tryz.ntmps93
     go_upto_region 1 with fail
     refine wp_region_inv (by kernel_rfl) (by kernel_rfl) (fun L a w => ∃ v10 v11 v12 v13 v14 v15 v16 v17 v18 v19 v20 v21 v22 v23 v24 v25 v26 v27 v28 v29 v30 v31 v32 v33 v34 v35 v36 : Value, a = { tmps := #[(.slice (some ⟨g, off, none⟩) n cap), (.int .i64 ((kk : Nat) : Int)), undef, undef, (.slice none 0 0), (.slice none 0 0), (.bool false), undef, undef, undef, v10, v11, v12, v13, v14, v15, v16, v17, v18, v19, v20, v21, v22, v23, v24, v25, v26, v27, v28, v29, v30, v31, v32, v33, v34, v35, v36, undef, undef, undef, undef, undef, undef, undef, undef, undef, undef, undef, undef, undef, undef, undef, undef, undef, undef, undef, undef, undef], defers := [] } ∧ HveK w0 g off n cap kk lo hi L v10 v11 v12 v13 v14 v15 v16 v17 v18 v19 v20 v21 v22 v23 v24 v25 v26 v27 v28 v29 v30 v31 v32 v33 v34 v35 v36 w) ?_ ?_ ?_
     ·exact ⟨_, _, _, _, _, _, _, _, _, _, _, _, _, _, _, _, _, _, _, _, _, _, _, _, _, _, _, rfl, ⟨hS0, nofun, nofun, nofun, nofun, nofun, nofun, nofun, nofun, nofun, nofun, nofun, nofun, nofun, nofun, nofun, nofun, nofun, nofun, nofun, nofun, nofun, nofun, nofun, nofun, nofun, nofun, nofun⟩⟩
     ·intro iq oq ho L a w hL hd hJ
      obtain ⟨v10, v11, v12, v13, v14, v15, v16, v17, v18, v19, v20, v21, v22, v23, v24, v25, v26, v27, v28, v29, v30, v31, v32, v33, v34, v35, v36, rfl, k⟩ := hJ
      have hiq : iq < 27 := by have := (Array.getElem?_eq_some_iff.1 ho).1; simpa using this
      match iq, hiq, ho, hL with
      | 0, _, ho, hL =>
       have ho2 := ho
       simp only [qz1, qz2, qz3, qz4] at ho
       subst ho
       refine wpOp_step ho2 (fun K hK => ?_)
       go_simp
       exact hK _ _ ⟨_, _, _, _, _, _, _, _, _, _, _, _, _, _, _, _, _, _, _, _, _, _, _, _, _, _, _, rfl, ⟨k.wf, fun _ => rfl, k.f1, k.f2, k.f3, k.f4, k.f5, k.f6, k.f7, k.f8, k.f9, k.f10, k.f11, k.f12, k.f13, k.f14, k.f15, k.f16, k.f17, k.f18, k.f19, k.f20, k.f21, k.f22, k.f23, k.f24, k.f25, k.f26⟩⟩
      | 1, _, ho, hL =>
       have ho2 := ho
       simp only [qz1, qz2, qz3, qz4] at ho
       subst ho
       refine wpOp_step ho2 (fun K hK => ?_)
       obtain rfl := k.f0 (hd ⟨0, .data⟩ (by simp) rfl)
       have hcall := HV.out w k.wf
       go_simp
       refine hcall.mono ?_
       rintro e X ⟨rfl, hb⟩
       exact hK _ _ ⟨_, _, _, _, _, _, _, _, _, _, _, _, _, _, _, _, _, _, _, _, _, _, _, _, _, _, _, rfl, ⟨k.wf.trans (hb.mono k.wf.size), k.f0, fun _ => rfl, k.f2, k.f3, k.f4, k.f5, k.f6, k.f7, k.f8, k.f9, k.f10, k.f11, k.f12, k.f13, k.f14, k.f15, k.f16, k.f17, k.f18, k.f19, k.f20, k.f21, k.f22, k.f23, k.f24, k.f25, k.f26⟩⟩
      | 2, _, ho, hL =>
       have ho2 := ho
       simp only [qz1, qz2, qz3, qz4] at ho
       subst ho
       refine wpOp_step ho2 (fun K hK => ?_)
       obtain rfl := k.f1 (hd ⟨1, .data⟩ (by simp) rfl)
       go_simp
       exact hK _ _ ⟨_, _, _, _, _, _, _, _, _, _, _, _, _, _, _, _, _, _, _, _, _, _, _, _, _, _, _, rfl, ⟨k.wf, k.f0, k.f1, fun _ => rfl, k.f3, k.f4, k.f5, k.f6, k.f7, k.f8, k.f9, k.f10, k.f11, k.f12, k.f13, k.f14, k.f15, k.f16, k.f17, k.f18, k.f19, k.f20, k.f21, k.f22, k.f23, k.f24, k.f25, k.f26⟩⟩
      | 3, _, ho, hL =>
       have ho2 := ho
       simp only [qz1, qz2, qz3, qz4] at ho
       subst ho
       refine wpOp_step ho2 (fun K hK => ?_)
       obtain rfl := k.f2 (hd ⟨2, .data⟩ (by simp) rfl)
       go_simp
       exact hK _ _ ⟨_, _, _, _, _, _, _, _, _, _, _, _, _, _, _, _, _, _, _, _, _, _, _, _, _, _, _, rfl, ⟨k.wf, k.f0, k.f1, k.f2, fun _ => rfl, k.f4, k.f5, k.f6, k.f7, k.f8, k.f9, k.f10, k.f11, k.f12, k.f13, k.f14, k.f15, k.f16, k.f17, k.f18, k.f19, k.f20, k.f21, k.f22, k.f23, k.f24, k.f25, k.f26⟩⟩
      | 4, _, ho, hL =>
       have ho2 := ho
       simp only [qz1, qz2, qz3, qz4] at ho
       subst ho
       refine wpOp_step ho2 (fun K hK => ?_)
       obtain rfl := k.f3 (hd ⟨3, .guard⟩ (by simp) rfl)
       go_simp
       exact hK _ _ ⟨_, _, _, _, _, _, _, _, _, _, _, _, _, _, _, _, _, _, _, _, _, _, _, _, _, _, _, rfl, ⟨k.wf, k.f0, k.f1, k.f2, k.f3, fun _ => rfl, k.f5, k.f6, k.f7, k.f8, k.f9, k.f10, k.f11, k.f12, k.f13, k.f14, k.f15, k.f16, k.f17, k.f18, k.f19, k.f20, k.f21, k.f22, k.f23, k.f24, k.f25, k.f26⟩⟩
      | 5, _, ho, hL =>
       have ho2 := ho
       simp only [qz1, qz2, qz3, qz4] at ho
       subst ho
       refine wpOp_step ho2 (fun K hK => ?_)
       obtain rfl := k.f4 (hd ⟨4, .data⟩ (by simp) rfl)
       obtain rfl := k.f3 (hd ⟨3, .guard⟩ (by simp) rfl)
       go_simp
       exact hK _ _ ⟨_, _, _, _, _, _, _, _, _, _, _, _, _, _, _, _, _, _, _, _, _, _, _, _, _, _, _, rfl, ⟨k.wf, k.f0, k.f1, k.f2, k.f3, k.f4, fun _ => rfl, k.f6, k.f7, k.f8, k.f9, k.f10, k.f11, k.f12, k.f13, k.f14, k.f15, k.f16, k.f17, k.f18, k.f19, k.f20, k.f21, k.f22, k.f23, k.f24, k.f25, k.f26⟩⟩
      | 6, _, ho, hL =>
       have ho2 := ho
       simp only [qz1, qz2, qz3, qz4] at ho
       subst ho
       refine wpOp_step ho2 (fun K hK => ?_)
       obtain rfl := k.f3 (hd ⟨3, .data⟩ (by simp) rfl)
       obtain rfl := k.f5 (hd ⟨5, .data⟩ (by simp) rfl)
       go_simp
       exact hK _ _ ⟨_, _, _, _, _, _, _, _, _, _, _, _, _, _, _, _, _, _, _, _, _, _, _, _, _, _, _, rfl, ⟨k.wf, k.f0, k.f1, k.f2, k.f3, k.f4, k.f5, fun _ => rfl, k.f7, k.f8, k.f9, k.f10, k.f11, k.f12, k.f13, k.f14, k.f15, k.f16, k.f17, k.f18, k.f19, k.f20, k.f21, k.f22, k.f23, k.f24, k.f25, k.f26⟩⟩
      | 7, _, ho, hL =>
       have ho2 := ho
       simp only [qz1, qz2, qz3, qz4] at ho
       subst ho
       refine wpOp_step ho2 (fun K hK => ?_)
       obtain rfl := k.f6 (hd ⟨6, .data⟩ (by simp) rfl)
       go_simp
       exact hK _ _ ⟨_, _, _, _, _, _, _, _, _, _, _, _, _, _, _, _, _, _, _, _, _, _, _, _, _, _, _, rfl, ⟨k.wf, k.f0, k.f1, k.f2, k.f3, k.f4, k.f5, k.f6, fun _ => rfl, k.f8, k.f9, k.f10, k.f11, k.f12, k.f13, k.f14, k.f15, k.f16, k.f17, k.f18, k.f19, k.f20, k.f21, k.f22, k.f23, k.f24, k.f25, k.f26⟩⟩
      | 8, _, ho, hL =>
       have ho2 := ho
       simp only [qz1, qz2, qz3, qz4] at ho
       subst ho
       refine wpOp_step ho2 (fun K hK => ?_)
       obtain rfl := k.f7 (hd ⟨7, .guard⟩ (by simp) rfl)
       go_simp
       exact hK _ _ ⟨_, _, _, _, _, _, _, _, _, _, _, _, _, _, _, _, _, _, _, _, _, _, _, _, _, _, _, rfl, ⟨k.wf, k.f0, k.f1, k.f2, k.f3, k.f4, k.f5, k.f6, k.f7, fun _ => rfl, k.f9, k.f10, k.f11, k.f12, k.f13, k.f14, k.f15, k.f16, k.f17, k.f18, k.f19, k.f20, k.f21, k.f22, k.f23, k.f24, k.f25, k.f26⟩⟩
      | 9, _, ho, hL =>
       have ho2 := ho
       simp only [qz1, qz2, qz3, qz4] at ho
       subst ho
       refine wpOp_step ho2 (fun K hK => ?_)
       obtain rfl := k.f7 (hd ⟨7, .guard⟩ (by simp) rfl)
       go_simp
       exact hK _ _ ⟨_, _, _, _, _, _, _, _, _, _, _, _, _, _, _, _, _, _, _, _, _, _, _, _, _, _, _, rfl, ⟨k.wf, k.f0, k.f1, k.f2, k.f3, k.f4, k.f5, k.f6, k.f7, k.f8, fun _ => rfl, k.f10, k.f11, k.f12, k.f13, k.f14, k.f15, k.f16, k.f17, k.f18, k.f19, k.f20, k.f21, k.f22, k.f23, k.f24, k.f25, k.f26⟩⟩
      | 10, _, ho, hL =>
       have ho2 := ho
       simp only [qz1, qz2, qz3, qz4] at ho
       subst ho
       refine wpOp_step ho2 (fun K hK => ?_)
       obtain rfl := k.f9 (hd ⟨9, .data⟩ (by simp) rfl)
       obtain rfl := k.f7 (hd ⟨7, .guard⟩ (by simp) rfl)
       go_simp
       exact hK _ _ ⟨_, _, _, _, _, _, _, _, _, _, _, _, _, _, _, _, _, _, _, _, _, _, _, _, _, _, _, rfl, ⟨k.wf, k.f0, k.f1, k.f2, k.f3, k.f4, k.f5, k.f6, k.f7, k.f8, k.f9, fun _ => rfl, k.f11, k.f12, k.f13, k.f14, k.f15, k.f16, k.f17, k.f18, k.f19, k.f20, k.f21, k.f22, k.f23, k.f24, k.f25, k.f26⟩⟩
      | 11, _, ho, hL =>
       have ho2 := ho
       simp only [qz1, qz2, qz3, qz4] at ho
       subst ho
       refine wpOp_step ho2 (fun K hK => ?_)
       obtain rfl := k.f8 (hd ⟨8, .data⟩ (by simp) rfl)
       obtain rfl := k.f10 (hd ⟨10, .data⟩ (by simp) rfl)
       obtain rfl := k.f7 (hd ⟨7, .guard⟩ (by simp) rfl)
       go_simp
       exact hK _ _ ⟨_, _, _, _, _, _, _, _, _, _, _, _, _, _, _, _, _, _, _, _, _, _, _, _, _, _, _, rfl, ⟨k.wf, k.f0, k.f1, k.f2, k.f3, k.f4, k.f5, k.f6, k.f7, k.f8, k.f9, k.f10, fun _ => rfl, k.f12, k.f13, k.f14, k.f15, k.f16, k.f17, k.f18, k.f19, k.f20, k.f21, k.f22, k.f23, k.f24, k.f25, k.f26⟩⟩
      | 12, _, ho, hL =>
       have ho2 := ho
       simp only [qz1, qz2, qz3, qz4] at ho
       subst ho
       refine wpOp_step ho2 (fun K hK => ?_)
       obtain rfl := k.f7 (hd ⟨7, .data⟩ (by simp) rfl)
       obtain rfl := k.f11 (hd ⟨11, .data⟩ (by simp) rfl)
       go_simp
       exact hK _ _ ⟨_, _, _, _, _, _, _, _, _, _, _, _, _, _, _, _, _, _, _, _, _, _, _, _, _, _, _, rfl, ⟨k.wf, k.f0, k.f1, k.f2, k.f3, k.f4, k.f5, k.f6, k.f7, k.f8, k.f9, k.f10, k.f11, fun _ => rfl, k.f13, k.f14, k.f15, k.f16, k.f17, k.f18, k.f19, k.f20, k.f21, k.f22, k.f23, k.f24, k.f25, k.f26⟩⟩
      | 13, _, ho, hL =>
       have ho2 := ho
       simp only [qz1, qz2, qz3, qz4] at ho
       subst ho
       refine wpOp_step ho2 (fun K hK => ?_)
       obtain rfl := k.f12 (hd ⟨12, .data⟩ (by simp) rfl)
       go_simp
       exact hK _ _ ⟨_, _, _, _, _, _, _, _, _, _, _, _, _, _, _, _, _, _, _, _, _, _, _, _, _, _, _, rfl, ⟨k.wf, k.f0, k.f1, k.f2, k.f3, k.f4, k.f5, k.f6, k.f7, k.f8, k.f9, k.f10, k.f11, k.f12, fun _ => rfl, k.f14, k.f15, k.f16, k.f17, k.f18, k.f19, k.f20, k.f21, k.f22, k.f23, k.f24, k.f25, k.f26⟩⟩
      | 14, _, ho, hL =>
       have ho2 := ho
       simp only [qz1, qz2, qz3, qz4] at ho
       subst ho
       refine wpOp_step ho2 (fun K hK => ?_)
       obtain rfl := k.f13 (hd ⟨13, .guard⟩ (by simp) rfl)
       go_simp
       exact hK _ _ ⟨_, _, _, _, _, _, _, _, _, _, _, _, _, _, _, _, _, _, _, _, _, _, _, _, _, _, _, rfl, ⟨k.wf, k.f0, k.f1, k.f2, k.f3, k.f4, k.f5, k.f6, k.f7, k.f8, k.f9, k.f10, k.f11, k.f12, k.f13, fun _ => rfl, k.f15, k.f16, k.f17, k.f18, k.f19, k.f20, k.f21, k.f22, k.f23, k.f24, k.f25, k.f26⟩⟩
      | 15, _, ho, hL =>
       have ho2 := ho
       simp only [qz1, qz2, qz3, qz4] at ho
       subst ho
       refine wpOp_step ho2 (fun K hK => ?_)
       obtain rfl := k.f13 (hd ⟨13, .guard⟩ (by simp) rfl)
       go_simp
       exact hK _ _ ⟨_, _, _, _, _, _, _, _, _, _, _, _, _, _, _, _, _, _, _, _, _, _, _, _, _, _, _, rfl, ⟨k.wf, k.f0, k.f1, k.f2, k.f3, k.f4, k.f5, k.f6, k.f7, k.f8, k.f9, k.f10, k.f11, k.f12, k.f13, k.f14, fun _ => rfl, k.f16, k.f17, k.f18, k.f19, k.f20, k.f21, k.f22, k.f23, k.f24, k.f25, k.f26⟩⟩
      | 16, _, ho, hL =>
       have ho2 := ho
       simp only [qz1, qz2, qz3, qz4] at ho
       subst ho
       refine wpOp_step ho2 (fun K hK => ?_)
       obtain rfl := k.f14 (hd ⟨14, .data⟩ (by simp) rfl)
       obtain rfl := k.f15 (hd ⟨15, .data⟩ (by simp) rfl)
       obtain rfl := k.f13 (hd ⟨13, .guard⟩ (by simp) rfl)
       go_simp
       exact hK _ _ ⟨_, _, _, _, _, _, _, _, _, _, _, _, _, _, _, _, _, _, _, _, _, _, _, _, _, _, _, rfl, ⟨k.wf, k.f0, k.f1, k.f2, k.f3, k.f4, k.f5, k.f6, k.f7, k.f8, k.f9, k.f10, k.f11, k.f12, k.f13, k.f14, k.f15, fun _ => rfl, k.f17, k.f18, k.f19, k.f20, k.f21, k.f22, k.f23, k.f24, k.f25, k.f26⟩⟩
      | 17, _, ho, hL =>
       have ho2 := ho
       simp only [qz1, qz2, qz3, qz4] at ho
       subst ho
       refine wpOp_step ho2 (fun K hK => ?_)
       obtain rfl := k.f16 (hd ⟨16, .data⟩ (by simp) rfl)
       obtain rfl := k.f13 (hd ⟨13, .guard⟩ (by simp) rfl)
       go_simp
       exact hK _ _ ⟨_, _, _, _, _, _, _, _, _, _, _, _, _, _, _, _, _, _, _, _, _, _, _, _, _, _, _, rfl, ⟨k.wf, k.f0, k.f1, k.f2, k.f3, k.f4, k.f5, k.f6, k.f7, k.f8, k.f9, k.f10, k.f11, k.f12, k.f13, k.f14, k.f15, k.f16, fun _ => rfl, k.f18, k.f19, k.f20, k.f21, k.f22, k.f23, k.f24, k.f25, k.f26⟩⟩
      | 18, _, ho, hL =>
       have ho2 := ho
       simp only [qz1, qz2, qz3, qz4] at ho
       subst ho
       refine wpOp_step ho2 (fun K hK => ?_)
       obtain rfl := k.f17 (hd ⟨17, .data⟩ (by simp) rfl)
       obtain rfl := k.f13 (hd ⟨13, .guard⟩ (by simp) rfl)
       obtain ⟨x0, x1, gl⟩ := HXA.out w k.wf
       go_simp
       exact hK _ _ ⟨_, _, _, _, _, _, _, _, _, _, _, _, _, _, _, _, _, _, _, _, _, _, _, _, _, _, _, rfl, ⟨k.wf, k.f0, k.f1, k.f2, k.f3, k.f4, k.f5, k.f6, k.f7, k.f8, k.f9, k.f10, k.f11, k.f12, k.f13, k.f14, k.f15, k.f16, k.f17, fun _ => rfl, k.f19, k.f20, k.f21, k.f22, k.f23, k.f24, k.f25, k.f26⟩⟩
      | 19, _, ho, hL =>
       have ho2 := ho
       simp only [qz1, qz2, qz3, qz4] at ho
       subst ho
       refine wpOp_step ho2 (fun K hK => ?_)
       obtain rfl := k.f13 (hd ⟨13, .guard⟩ (by simp) rfl)
       go_simp
       exact hK _ _ ⟨_, _, _, _, _, _, _, _, _, _, _, _, _, _, _, _, _, _, _, _, _, _, _, _, _, _, _, rfl, ⟨k.wf, k.f0, k.f1, k.f2, k.f3, k.f4, k.f5, k.f6, k.f7, k.f8, k.f9, k.f10, k.f11, k.f12, k.f13, k.f14, k.f15, k.f16, k.f17, k.f18, fun _ => rfl, k.f20, k.f21, k.f22, k.f23, k.f24, k.f25, k.f26⟩⟩
      | 20, _, ho, hL =>
       have ho2 := ho
       simp only [qz1, qz2, qz3, qz4] at ho
       subst ho
       refine wpOp_step ho2 (fun K hK => ?_)
       obtain rfl := k.f13 (hd ⟨13, .guard⟩ (by simp) rfl)
       go_simp
       exact hK _ _ ⟨_, _, _, _, _, _, _, _, _, _, _, _, _, _, _, _, _, _, _, _, _, _, _, _, _, _, _, rfl, ⟨k.wf, k.f0, k.f1, k.f2, k.f3, k.f4, k.f5, k.f6, k.f7, k.f8, k.f9, k.f10, k.f11, k.f12, k.f13, k.f14, k.f15, k.f16, k.f17, k.f18, k.f19, fun _ => rfl, k.f21, k.f22, k.f23, k.f24, k.f25, k.f26⟩⟩
      | 21, _, ho, hL =>
       have ho2 := ho
       simp only [qz1, qz2, qz3, qz4] at ho
       subst ho
       refine wpOp_step ho2 (fun K hK => ?_)
       obtain rfl := k.f19 (hd ⟨19, .data⟩ (by simp) rfl)
       obtain rfl := k.f20 (hd ⟨20, .data⟩ (by simp) rfl)
       obtain rfl := k.f13 (hd ⟨13, .guard⟩ (by simp) rfl)
       go_simp
       exact hK _ _ ⟨_, _, _, _, _, _, _, _, _, _, _, _, _, _, _, _, _, _, _, _, _, _, _, _, _, _, _, rfl, ⟨k.wf, k.f0, k.f1, k.f2, k.f3, k.f4, k.f5, k.f6, k.f7, k.f8, k.f9, k.f10, k.f11, k.f12, k.f13, k.f14, k.f15, k.f16, k.f17, k.f18, k.f19, k.f20, fun _ => rfl, k.f22, k.f23, k.f24, k.f25, k.f26⟩⟩
      | 22, _, ho, hL =>
       have ho2 := ho
       simp only [qz1, qz2, qz3, qz4] at ho
       subst ho
       refine wpOp_step ho2 (fun K hK => ?_)
       obtain rfl := k.f21 (hd ⟨21, .data⟩ (by simp) rfl)
       obtain rfl := k.f13 (hd ⟨13, .guard⟩ (by simp) rfl)
       go_simp
       exact hK _ _ ⟨_, _, _, _, _, _, _, _, _, _, _, _, _, _, _, _, _, _, _, _, _, _, _, _, _, _, _, rfl, ⟨k.wf, k.f0, k.f1, k.f2, k.f3, k.f4, k.f5, k.f6, k.f7, k.f8, k.f9, k.f10, k.f11, k.f12, k.f13, k.f14, k.f15, k.f16, k.f17, k.f18, k.f19, k.f20, k.f21, fun _ => rfl, k.f23, k.f24, k.f25, k.f26⟩⟩
      | 23, _, ho, hL =>
       have ho2 := ho
       simp only [qz1, qz2, qz3, qz4] at ho
       subst ho
       refine wpOp_step ho2 (fun K hK => ?_)
       obtain rfl := k.f22 (hd ⟨22, .data⟩ (by simp) rfl)
       obtain rfl := k.f13 (hd ⟨13, .guard⟩ (by simp) rfl)
       obtain ⟨x0, x1, gl⟩ := HXA.out w k.wf
       go_simp
       exact hK _ _ ⟨_, _, _, _, _, _, _, _, _, _, _, _, _, _, _, _, _, _, _, _, _, _, _, _, _, _, _, rfl, ⟨k.wf, k.f0, k.f1, k.f2, k.f3, k.f4, k.f5, k.f6, k.f7, k.f8, k.f9, k.f10, k.f11, k.f12, k.f13, k.f14, k.f15, k.f16, k.f17, k.f18, k.f19, k.f20, k.f21, k.f22, fun _ => rfl, k.f24, k.f25, k.f26⟩⟩
      | 24, _, ho, hL =>
       have ho2 := ho
       simp only [qz1, qz2, qz3, qz4] at ho
       subst ho
       refine wpOp_step ho2 (fun K hK => ?_)
       obtain rfl := k.f18 (hd ⟨18, .data⟩ (by simp) rfl)
       obtain rfl := k.f23 (hd ⟨23, .data⟩ (by simp) rfl)
       obtain rfl := k.f13 (hd ⟨13, .guard⟩ (by simp) rfl)
       go_simp
       exact hK _ _ ⟨_, _, _, _, _, _, _, _, _, _, _, _, _, _, _, _, _, _, _, _, _, _, _, _, _, _, _, rfl, ⟨k.wf, k.f0, k.f1, k.f2, k.f3, k.f4, k.f5, k.f6, k.f7, k.f8, k.f9, k.f10, k.f11, k.f12, k.f13, k.f14, k.f15, k.f16, k.f17, k.f18, k.f19, k.f20, k.f21, k.f22, k.f23, fun _ => rfl, k.f25, k.f26⟩⟩
      | 25, _, ho, hL =>
       have ho2 := ho
       simp only [qz1, qz2, qz3, qz4] at ho
       subst ho
       refine wpOp_step ho2 (fun K hK => ?_)
       obtain rfl := k.f24 (hd ⟨24, .data⟩ (by simp) rfl)
       obtain rfl := k.f13 (hd ⟨13, .guard⟩ (by simp) rfl)
       go_simp
       exact hK _ _ ⟨_, _, _, _, _, _, _, _, _, _, _, _, _, _, _, _, _, _, _, _, _, _, _, _, _, _, _, rfl, ⟨k.wf, k.f0, k.f1, k.f2, k.f3, k.f4, k.f5, k.f6, k.f7, k.f8, k.f9, k.f10, k.f11, k.f12, k.f13, k.f14, k.f15, k.f16, k.f17, k.f18, k.f19, k.f20, k.f21, k.f22, k.f23, k.f24, fun _ => rfl, k.f26⟩⟩
      | 26, _, ho, hL =>
       have ho2 := ho
       simp only [qz1, qz2, qz3, qz4] at ho
       subst ho
       refine wpOp_step ho2 (fun K hK => ?_)
       obtain rfl := k.f13 (hd ⟨13, .data⟩ (by simp) rfl)
       obtain rfl := k.f25 (hd ⟨25, .data⟩ (by simp) rfl)
       go_simp
       exact hK _ _ ⟨_, _, _, _, _, _, _, _, _, _, _, _, _, _, _, _, _, _, _, _, _, _, _, _, _, _, _, rfl, ⟨k.wf, k.f0, k.f1, k.f2, k.f3, k.f4, k.f5, k.f6, k.f7, k.f8, k.f9, k.f10, k.f11, k.f12, k.f13, k.f14, k.f15, k.f16, k.f17, k.f18, k.f19, k.f20, k.f21, k.f22, k.f23, k.f24, k.f25, fun _ => rfl⟩⟩
      | n + 27, h, _, _ => omega
     ·intro L a w hL hJ
      obtain ⟨v10, v11, v12, v13, v14, v15, v16, v17, v18, v19, v20, v21, v22, v23, v24, v25, v26, v27, v28, v29, v30, v31, v32, v33, v34, v35, v36, rfl, k⟩ := hJ
      obtain rfl := k.f0 (hL 0 (by decide))
      obtain rfl := k.f1 (hL 1 (by decide))
      obtain rfl := k.f2 (hL 2 (by decide))
      obtain rfl := k.f3 (hL 3 (by decide))
      obtain rfl := k.f4 (hL 4 (by decide))
      obtain rfl := k.f5 (hL 5 (by decide))
      obtain rfl := k.f6 (hL 6 (by decide))
      obtain rfl := k.f7 (hL 7 (by decide))
      obtain rfl := k.f8 (hL 8 (by decide))
      obtain rfl := k.f9 (hL 9 (by decide))
      obtain rfl := k.f10 (hL 10 (by decide))
      obtain rfl := k.f11 (hL 11 (by decide))
      obtain rfl := k.f12 (hL 12 (by decide))
      obtain rfl := k.f13 (hL 13 (by decide))
      obtain rfl := k.f14 (hL 14 (by decide))
      obtain rfl := k.f15 (hL 15 (by decide))
      obtain rfl := k.f16 (hL 16 (by decide))
      obtain rfl := k.f17 (hL 17 (by decide))
      obtain rfl := k.f18 (hL 18 (by decide))
      obtain rfl := k.f19 (hL 19 (by decide))
      obtain rfl := k.f20 (hL 20 (by decide))
      obtain rfl := k.f21 (hL 21 (by decide))
      obtain rfl := k.f22 (hL 22 (by decide))
      obtain rfl := k.f23 (hL 23 (by decide))
      obtain rfl := k.f24 (hL 24 (by decide))
      obtain rfl := k.f25 (hL 25 (by decide))
      obtain rfl := k.f26 (hL 26 (by decide))
      have hbw := k.wf
      dsimp only
      clear k hL
      obtain ⟨x0, x1, gl⟩ := HXA.out w hbw
      go_wp2_with fail
      refine (HMID.out _).mono ?_
      rintro e W2 ⟨rfl, hw2⟩
      have hb2 := hbw.trans (hw2.mono hbw.size)
      generalize (lo + hi) / 2 = mid at E ⊢
      clear x0 x1 gl hw2
      have HB2 := Lib.hid hb2
      go_wp2_with (at_builtin; go_loud (refine wpList_append_lies _ rfl _ _ 33 rfl W2.heap.size 79 i0 (.agg #[.int .i64 0, .int .i64 0]) 2 16 under33 hi0 hz0 hz1 hz2 rfl (by decide) _ _ _ rfl (World.ownsRow_nil _ _ _ _) ⟨g, off, none⟩ n cap (ivs b).flatten rfl ?c1 ?c2 ?c3 ?c4 ?c5 ?c6 ?c7 _ rfl ?_))
      case c1 => rw [ivs_flen, HBN.out]
      case c2 => exact iv_addr (HR.out.keep HB2.out)
      case c3 => exact ivs_cell b
      case c4 => omega
      case c5 => unfold maxLen; omega
      case c6 => omega
      case c7 => exact Nat.le_refl _
      intro g1 cap1 W3 hown1 hgr1 hat1 hlt1
      have hb3 : Below w0.heap.size w0 W3 := HB2.out.trans ((nil_grow hgr1).mono HB2.out.size)
      have hg1 : W2.heap.size ≤ g1 := by rw [nil_at hat1]; exact Nat.le_refl _
      have HB3 := Lib.hid hb3
      have HO1 := Lib.hid hown1
      have HG1 := Lib.hid hg1
      have HL1 := Lib.hid hlt1
      clear hown1 hgr1 hat1 hb3 hg1 hlt1
      go_wp2_with (at_builtin; go_loud (refine wpList_append_lies _ rfl _ _ 33 rfl W3.heap.size 79 i0 (.agg #[.int .i64 0, .int .i64 0]) 2 16 under33 hi0 hz0 hz1 hz2 rfl (by decide) _ _ _ rfl (World.ownsRow_nil _ _ _ _) ⟨g, off, none⟩ n cap (ivs b).flatten rfl ?c1 ?c2 ?c3 ?c4 ?c5 ?c6 ?c7 _ rfl ?_))
      case c1 => rw [ivs_flen, HBN.out]
      case c2 => exact iv_addr (HR.out.keep HB3.out)
      case c3 => exact ivs_cell b
      case c4 => omega
      case c5 => unfold maxLen; omega
      case c6 => omega
      case c7 => exact Nat.le_refl _
      intro g2 cap2 W4 hown2 hgr2 hat2 hlt2
      have hW34 := nil_grow hgr2
      have hb4 : Below w0.heap.size w0 W4 := HB3.out.trans (hW34.mono HB3.out.size)
      have hg2 : W3.heap.size ≤ g2 := by rw [nil_at hat2]; exact Nat.le_refl _
      have HO1' := Lib.hid (own_keep HO1.out hW34)
      have HO2 := Lib.hid hown2
      have HB4 := Lib.hid hb4
      have HS := Lib.hid (show g1 < g2 ∧ w0.heap.size ≤ W2.heap.size ∧ w0.heap.size ≤ W3.heap.size by have := HL1.out; have := HB2.out.size; have := HB3.out.size; omega)
      clear hown2 hgr2 hat2 hb4 hg2 hlt2 hW34 HO1 HB3 HB2 HG1 HL1 HR HXA HMID hbw
      go_upto_region 5 with fail
      obtain ⟨s1, s2, s3⟩ := HS.out
      have hne : ¬ g2 = g1 := by omega
      have hne' : ¬ g1 = g2 := by omega
      have fl1 : kk * 2 + 1 < (ivs b).flatten.length := by rw [ivs_flen, HBN.out]; omega
      obtain ⟨u1, hu1⟩ : ∃ u, (ivs b).flatten[kk * 2 + 1]? = some u := ⟨_, List.getElem?_eq_getElem fl1⟩
      obtain ⟨u2, hu2⟩ : ∃ u, (ivs b).flatten[kk * 2]? = some u := ⟨_, List.getElem?_eq_getElem (by omega)⟩
      have c1 := own_at HO1'.out _ _ hu1
      have c2 := own_at HO2.out _ _ hu2
      have f1 := own_frozen HO1'.out (by omega) (kk * 2 + 1)
      have f2 := own_frozen HO2.out (by omega) (kk * 2)
      have l1 := (own_lt HO1'.out g1 rfl).1
      have l2 := (own_lt HO2.out g2 rfl).1
      have r1 := own_set1 HO1'.out (kk * 2 + 1) (by omega) (.int .i64 mid)
      have r1' := own_blk (W' := (W4.setCell ⟨g1, kk * 2 + 1, none⟩ (.int .i64 mid)).setCell ⟨g2, kk * 2, none⟩ (.int .i64 mid)) r1 (fun k hk _ _ => by injection hk with hk; subst hk; exact Below.heap_setCell _ ⟨g2, kk * 2, none⟩ _ _ hne')
      have r2 := own_blk (W' := W4.setCell ⟨g1, kk * 2 + 1, none⟩ (.int .i64 mid)) HO2.out (fun k hk _ _ => by injection hk with hk; subst hk; exact Below.heap_setCell _ ⟨g1, kk * 2 + 1, none⟩ _ _ hne)
      have r2' := own_set1 r2 (kk * 2) (by omega) (.int .i64 mid)
      rw [← ivs_set1 (v := (lo, hi)) mid HK.out] at r1'
      rw [← ivs_set0 (v := (lo, hi)) mid HK.out] at r2'
      have hlb1 : W2.heap.size ≤ g1 := (own_lt HO1'.out g1 rfl).2
      have hlb2 : W3.heap.size ≤ g2 := (own_lt HO2.out g2 rfl).2
      have hb5 : Below w0.heap.size w0 ((W4.setCell ⟨g1, kk * 2 + 1, none⟩ (.int .i64 mid)).setCell ⟨g2, kk * 2, none⟩ (.int .i64 mid)) := by
       refine HB4.out.trans ⟨rfl, rfl, rfl, by simp [World.setCell], fun k hk => ?_⟩
       rw [Below.heap_setCell _ ⟨g2, kk * 2, none⟩ _ _ (by show k ≠ g2; omega), Below.heap_setCell _ ⟨g1, kk * 2 + 1, none⟩ _ _ (by show k ≠ g1; omega)]
      have R1 := Lib.hid r1'
      have R2 := Lib.hid r2'
      have HB5 := Lib.hid hb5
      clear r1 r1' r2 r2' hb5 hu1 hu2 fl1 hlb1 hlb2
      go_wp2
      refine bodyPost_ret (v := .tuple #[.slice (some ⟨g1, 0, none⟩) n cap1, .slice (some ⟨g2, 0, none⟩) n cap2, .bool true]) (by simp [results, Tryz.results93, go_sem]) rfl ?_
      exact HalvP.yes E.out HBN.out (by rw [List.length_set, HBN.out]) (by rw [List.length_set, HBN.out]) R1.out R2.out s2 s3 HB5.out
end Go.Proofs.Ng
