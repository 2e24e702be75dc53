/-
  Texts put together: Eh.
-/
import Derived.Test.YtlpcihfkkgifkaaGreatDoorZFormatTrajectoriesCard20
import Derived.Test.YtlpcihfkkgifkaaGreatDoorZFormatTrajectoriesCard24
import Derived.Test.YtlpcihfkkgifkaaGreatDoorZFormatTrajectoriesCard18
set_option linter.unusedVariables false
namespace Go.Proofs.Ng
open Go.RowKit

theorem small_of_docT {t : Fm.TrajD} (h : (Fm.docTr t).length ≤ 999999999) : TrajSmall t := by
  have hl : (Fm.trajT t).length + 4 ≤ 999999999 := by unfold Fm.docTr at h; rw [List.length_append] at h; exact h
  have h0 : (Fm.pathT t.path).length + (flT Fm.profT t.profs).length ≤ 999999990 := by
    rw [trajT_eq] at hl
    simp only [List.length_append, List.length_cons, List.length_nil, Fm.kwTraj] at hl
    omega
  refine ⟨small_of_doc ?_, ?_, fun x hx => ?_⟩
  · unfold Fm.docT
    rw [List.length_append]
    have : (Fm.lineT Fm.kwEnd []).length = 4 := rfl
    omega
  · have := flT_ge profT_pos t.profs; omega
  · have h1 := flT_mem (f := Fm.profT) hx
    rw [profT_eq, List.length_append, List.length_append] at h1
    have h2 := lineT_ge Fm.kwLevels x.levels
    have h3 := lineT_ge Fm.kwSteps x.steps
    omega
theorem small_trajZ : TrajSmall trajZ := ⟨small_nil, Nat.zero_le _, fun x h => (by cases h)⟩
theorem small_parseT (s : List UInt8) : TrajSmall (parseResT s).1 := by
  unfold parseResT
  split
  · exact small_trajZ
  · split
    · split
      · rename_i hp
        have := (Fm.parse_docTr hp).1
        exact small_of_docT (by rw [this]; omega)
      · exact small_trajZ
    · exact small_trajZ
set_option maxRecDepth 100000 in
set_option maxHeartbeats 8000000 in
theorem trajectories15 (w : World) (pv : Value) (p : Fm.TrajD) (s : ByteArray) (hP : TrajAt w pv p) (hr : Fm.TrajOk p) (hl : (Fm.docTr p).length ≤ 1048576) (hs : s.size ≤ 9223372036854775807) (hL : LibW w) :
    Calls Tryz.prog 15 #[pv, .string s] w (BoolP true w) := by
  have hP0 := hP
  obtain ⟨op, np, oe, ne, f, nf, rfl, -, -, -⟩ := hP
  have hb1 : Below w.heap.size w (w.alloc (.cells #[.slice op p.path.pts.length np, .slice oe p.path.edges.length ne, .int .i64 p.grav.1, .int .i64 p.grav.2.1, .int .i64 p.grav.2.2, .int .i64 p.grid, .slice f p.profs.length nf] 41)) := (Below.refl _ _).alloc (Nat.le_refl _) _
  have hbx := Bx.new w [.slice op p.path.pts.length np, .slice oe p.path.edges.length ne, .int .i64 p.grav.1, .int .i64 p.grav.2.1, .int .i64 p.grav.2.2, .int .i64 p.grid, .slice f p.profs.length nf] 41
  obtain ⟨fs, fc, hfv⟩ := fmtV_at (Fm.formatTr p)
  have HP := Lib.hid hP0
  have HX := Lib.hid hbx
  have HB := Lib.hid hb1
  have HL := Lib.hid hL
  have HR := Lib.hid hr
  have HS := Lib.hid (small_parseT s.data.toList)
  have HFV := Lib.hid hfv
  clear hP0 hb1 hbx hL hr hfv
  go_enter Tryz.func15, Tryz.ntmps15
  go_upto_region 1 with fail
  generalize w.alloc (.cells #[.slice op p.path.pts.length np, .slice oe p.path.edges.length ne, .int .i64 p.grav.1, .int .i64 p.grav.2.1, .int .i64 p.grav.2.2, .int .i64 p.grid, .slice f p.profs.length nf] 41) = w1 at HX HB ⊢
  obtain ⟨n, hn⟩ : ∃ n, n = w.heap.size := ⟨_, rfl⟩
  have HN := Lib.hid hn
  rw [← hn] at HX ⊢
  clear hn
  have H1 := Lib.hid (formatTraj30 w1 _ p (HP.out.keep HB.out) HR.out hl (tab_size HL.out.tabs HB.out))
  rw [HFV.out] at H1
  have c0 : w1.cell? ⟨n, 0, none⟩ = some (.slice op p.path.pts.length np) := HX.out.c 0 _ rfl
  have c1 : w1.cell? ⟨n, 1, none⟩ = some (.slice oe p.path.edges.length ne) := HX.out.c 1 _ rfl
  have c2 : w1.cell? ⟨n, 2, none⟩ = some (.int .i64 p.grav.1) := HX.out.c 2 _ rfl
  have c3 : w1.cell? ⟨n, 3, none⟩ = some (.int .i64 p.grav.2.1) := HX.out.c 3 _ rfl
  have c4 : w1.cell? ⟨n, 4, none⟩ = some (.int .i64 p.grav.2.2) := HX.out.c 4 _ rfl
  have c5 : w1.cell? ⟨n, 5, none⟩ = some (.int .i64 p.grid) := HX.out.c 5 _ rfl
  have c6 : w1.cell? ⟨n, 6, none⟩ = some (.slice f p.profs.length nf) := HX.out.c 6 _ rfl
  have clt := HX.out.lt
  go_wp2_with fail
  refine H1.out.mono ?_
  clear H1
  rintro e W1 ⟨rfl, hb2⟩
  have HX1 := Lib.hid (HX.out.keep hb2)
  have HB1 := Lib.hid (below_call HB.out hb2)
  clear hb2 HX HB c0 c1 c2 c3 c4 c5 c6 clt
  have c0 : W1.cell? ⟨n, 0, none⟩ = some (.slice op p.path.pts.length np) := HX1.out.c 0 _ rfl
  have c1 : W1.cell? ⟨n, 1, none⟩ = some (.slice oe p.path.edges.length ne) := HX1.out.c 1 _ rfl
  have c2 : W1.cell? ⟨n, 2, none⟩ = some (.int .i64 p.grav.1) := HX1.out.c 2 _ rfl
  have c3 : W1.cell? ⟨n, 3, none⟩ = some (.int .i64 p.grav.2.1) := HX1.out.c 3 _ rfl
  have c4 : W1.cell? ⟨n, 4, none⟩ = some (.int .i64 p.grav.2.2) := HX1.out.c 4 _ rfl
  have c5 : W1.cell? ⟨n, 5, none⟩ = some (.int .i64 p.grid) := HX1.out.c 5 _ rfl
  have c6 : W1.cell? ⟨n, 6, none⟩ = some (.slice f p.profs.length nf) := HX1.out.c 6 _ rfl
  have clt := HX1.out.lt
  have H2 := Lib.hid (refFormatTraj14 W1 _ p (HP.out.keep HB1.out) HR.out hl (tab_size HL.out.tabs HB1.out))
  rw [HFV.out] at H2
  go_wp2_with fail
  refine H2.out.mono ?_
  clear H2 c0 c1 c2 c3 c4 c5 c6 clt HX1
  rintro e W2 ⟨rfl, hb3⟩
  have HB2 := Lib.hid (below_call HB1.out hb3)
  clear hb3 HB1 HFV
  have H3 := Lib.hid (parseTraj31 s W2 hs (HL.out.low (HB2.out.mono HL.out.gt)))
  have H4 := Lib.hid (fun X hX => refParseTraj32 s X hs hX)
  generalize parseResT s.data.toList = res at HS H3 H4
  obtain ⟨q, code⟩ := res
  go_wp2_with fail
  refine H3.out.mono ?_
  clear H3
  rintro e W3 ⟨v3, rfl, hn3, hb4⟩
  have hp3 := hn3.now.at
  obtain ⟨oq, nq, of, nf', og, ng, rfl, -, -, -⟩ := hn3.now
  have HB3 := Lib.hid (below_call HB2.out hb4)
  have HP3 := Lib.hid hp3
  clear hb4 HB2 hn3 hp3
  go_wp2_with fail
  have hb5 : Below W3.heap.size W3 (W3.alloc (.cells #[.slice oq q.path.pts.length nq, .slice of q.path.edges.length nf', .int .i64 q.grav.1, .int .i64 q.grav.2.1, .int .i64 q.grav.2.2, .int .i64 q.grid, .slice og q.profs.length ng] 41)) := (Below.refl _ _).alloc (Nat.le_refl _) _
  have HX4 := Lib.hid (Bx.new W3 [.slice oq q.path.pts.length nq, .slice of q.path.edges.length nf', .int .i64 q.grav.1, .int .i64 q.grav.2.1, .int .i64 q.grav.2.2, .int .i64 q.grid, .slice og q.profs.length ng] 41)
  have HB4 := Lib.hid (below_call HB3.out hb5)
  have HP4 := Lib.hid (HP3.out.keep hb5)
  clear hb5 HB3 HP3
  generalize W3.alloc (.cells #[.slice oq q.path.pts.length nq, .slice of q.path.edges.length nf', .int .i64 q.grav.1, .int .i64 q.grav.2.1, .int .i64 q.grav.2.2, .int .i64 q.grid, .slice og q.profs.length ng] 41) = W4 at HX4 HB4 HP4 ⊢
  generalize W3.heap.size = n3 at HX4 ⊢
  refine (H4.out W4 (HL.out.low (HB4.out.mono HL.out.gt))).mono ?_
  clear H4
  rintro e W5 ⟨v5, rfl, hn5, hb6⟩
  have hp5 := hn5.now.at
  obtain ⟨or, nr, oh, nh, oi, ni, rfl, -, -, -⟩ := hn5.now
  have HB5 := Lib.hid (below_call HB4.out hb6)
  have HP5 := Lib.hid hp5
  have HX5 := Lib.hid (HX4.out.keep hb6)
  have HP6 := Lib.hid (HP4.out.keep hb6)
  clear hb6 HB4 hn5 hp5 HX4 HP4
  have hb7 : Below W5.heap.size W5 (W5.alloc (.cells #[.slice or q.path.pts.length nr, .slice oh q.path.edges.length nh, .int .i64 q.grav.1, .int .i64 q.grav.2.1, .int .i64 q.grav.2.2, .int .i64 q.grid, .slice oi q.profs.length ni] 41)) := (Below.refl _ _).alloc (Nat.le_refl _) _
  have HX7 := Lib.hid (Bx.new W5 [.slice or q.path.pts.length nr, .slice oh q.path.edges.length nh, .int .i64 q.grav.1, .int .i64 q.grav.2.1, .int .i64 q.grav.2.2, .int .i64 q.grid, .slice oi q.profs.length ni] 41)
  have HB7 := Lib.hid (below_call HB5.out hb7)
  have H33 := Lib.hid (sameTraj33 _ _ _ q (HP6.out.keep hb7) (HP5.out.keep hb7) HS.out)
  have HX8 := Lib.hid (HX5.out.keep hb7)
  clear hb7 HB5 HX5 HP5 HP6
  go_upto_region 5 with fail
  generalize W5.alloc (.cells #[.slice or q.path.pts.length nr, .slice oh q.path.edges.length nh, .int .i64 q.grav.1, .int .i64 q.grav.2.1, .int .i64 q.grav.2.2, .int .i64 q.grid, .slice oi q.profs.length ni] 41) = W6 at HB7 H33 HX7 HX8 ⊢
  generalize W5.heap.size = n5 at HX7 ⊢
  have x0 : W6.cell? ⟨n3, 0, none⟩ = some (.slice oq q.path.pts.length nq) := HX8.out.c 0 _ rfl
  have x1 : W6.cell? ⟨n3, 1, none⟩ = some (.slice of q.path.edges.length nf') := HX8.out.c 1 _ rfl
  have x2 : W6.cell? ⟨n3, 2, none⟩ = some (.int .i64 q.grav.1) := HX8.out.c 2 _ rfl
  have x3 : W6.cell? ⟨n3, 3, none⟩ = some (.int .i64 q.grav.2.1) := HX8.out.c 3 _ rfl
  have x4 : W6.cell? ⟨n3, 4, none⟩ = some (.int .i64 q.grav.2.2) := HX8.out.c 4 _ rfl
  have x5 : W6.cell? ⟨n3, 5, none⟩ = some (.int .i64 q.grid) := HX8.out.c 5 _ rfl
  have x6 : W6.cell? ⟨n3, 6, none⟩ = some (.slice og q.profs.length ng) := HX8.out.c 6 _ rfl
  have y0 : W6.cell? ⟨n5, 0, none⟩ = some (.slice or q.path.pts.length nr) := HX7.out.c 0 _ rfl
  have y1 : W6.cell? ⟨n5, 1, none⟩ = some (.slice oh q.path.edges.length nh) := HX7.out.c 1 _ rfl
  have y2 : W6.cell? ⟨n5, 2, none⟩ = some (.int .i64 q.grav.1) := HX7.out.c 2 _ rfl
  have y3 : W6.cell? ⟨n5, 3, none⟩ = some (.int .i64 q.grav.2.1) := HX7.out.c 3 _ rfl
  have y4 : W6.cell? ⟨n5, 4, none⟩ = some (.int .i64 q.grav.2.2) := HX7.out.c 4 _ rfl
  have y5 : W6.cell? ⟨n5, 5, none⟩ = some (.int .i64 q.grid) := HX7.out.c 5 _ rfl
  have y6 : W6.cell? ⟨n5, 6, none⟩ = some (.slice oi q.profs.length ni) := HX7.out.c 6 _ rfl
  have xl := HX8.out.lt
  have yl := HX7.out.lt
  go_wp2_with fail
  refine H33.out.mono ?_
  clear H33 x0 x1 x2 x3 x4 x5 x6 xl y0 y1 y2 y3 y4 y5 y6 yl
  rintro e W7 ⟨rfl, hb8⟩
  go_wp2
  go_ret
  exact boolP_mk rfl (below_call HB7.out hb8)
end Go.Proofs.Ng
