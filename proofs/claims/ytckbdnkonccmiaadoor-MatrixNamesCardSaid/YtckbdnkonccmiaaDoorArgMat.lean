/-
  The matrix that comes in.
-/
import Derived.Test.YtckbdnkonccmiaaDoorArgSz
namespace Go.Proofs.YtckbdnkonccmiaaDoor
open Go.RowKit Go.ChangeShapes Go.WideShapes
theorem array9 {cs : Array Value} {u0 u1 u2 u3 u4 u5 u6 u7 u8 : Value} (h : cs.size = 9) (g0 : cs[0]? = some u0) (g1 : cs[1]? = some u1) (g2 : cs[2]? = some u2) (g3 : cs[3]? = some u3) (g4 : cs[4]? = some u4) (g5 : cs[5]? = some u5) (g6 : cs[6]? = some u6) (g7 : cs[7]? = some u7) (g8 : cs[8]? = some u8) : cs = #[u0, u1, u2, u3, u4, u5, u6, u7, u8] := by
  obtain ⟨l⟩ := cs
  match l, h with
  | [a0, a1, a2, a3, a4, a5, a6, a7, a8], _ =>
    simp at g0 g1 g2 g3 g4 g5 g6 g7 g8
    subst g0 g1 g2 g3 g4 g5 g6 g7 g8
    rfl
theorem reach_small : reachBytes ≤ 1125899906842624 := by decide
section
variable {H : Type} {enc : TypeId × Value → H} {w : World} {base : Nat} {v : Value} {d : DataW H} {p : List MemPlace}
theorem open_nums_at {u : Value} {n : Nat} {y : DataW H × List MemPlace} (h : DataW.trod enc Tryd.prog w 0 (fun _ => true) true n 41 [u] = some y) (hz : LawFrame.Sz Tryd.prog 41 y.1) : ∃ l : List Int, NumsAt w l u ∧ l.length ≤ reachBytes := by
  obtain ⟨l, hl, hn⟩ := LawFrame.open_row1_sz (fun x : Int => .int .i64 x) Tryd.underlying41 (by kernel_rfl) (fun u n y hy => by
    obtain ⟨z, hz, _, _⟩ := DataW.trod_int Tryd.underlying3 hy
    simp only [List.cons.injEq, and_true] at hz
    exact ⟨z, hz⟩) h hz
  refine ⟨l, hl, ?_⟩
  have e : Tryd.prog.bytesOf 3 = 8 := by kernel_rfl
  rw [e] at hn
  omega
theorem open_devs_at {u : Value} {n : Nat} {y : DataW H × List MemPlace} (h : DataW.trod enc Tryd.prog w 0 (fun _ => true) true n 22 [u] = some y) (hz : LawFrame.Sz Tryd.prog 22 y.1) : ∃ l : List Dev, DevsAt w l u ∧ l.length ≤ reachBytes ∧ (∀ x ∈ l, x.name.size ≤ reachBytes) := by
  obtain ⟨l, hl, hn⟩ := LawFrame.open_rows_sz (fun x : { x : Dev // x.name.size ≤ reachBytes } => x.1.cells) Tryd.underlying22 Tryd.underlying47 (by kernel_rfl) (by kernel_rfl) (by decide) (fun vs hd => by
    obtain ⟨n0, y0, t0, s0⟩ := hd 0 _ rfl
    obtain ⟨n1, y1, t1, s1⟩ := hd 1 _ rfl
    obtain ⟨n2, y2, t2, s2⟩ := hd 2 _ rfl
    obtain ⟨b0, hb0, hx0, _⟩ := DataW.trod_string Tryd.underlying9 t0
    rw [hx0] at s0
    have c0 := s0.str
    obtain ⟨b1, hb1, _⟩ := DataW.trod_int Tryd.underlying3 t1
    obtain ⟨b2, hb2, _⟩ := DataW.trod_int Tryd.underlying3 t2
    simp only [List.cons.injEq, and_true] at hb0 hb1 hb2
    refine ⟨⟨⟨b0, b1, b2⟩, by simpa using c0⟩, fun j u hu => ?_⟩
    match j, hu with
    | 0, hu => exact ⟨by decide, by rw [hb0]; exact (Option.some.inj hu).symm⟩
    | 1, hu => exact ⟨by decide, by rw [hb1]; exact (Option.some.inj hu).symm⟩
    | 2, hu => exact ⟨by decide, by rw [hb2]; exact (Option.some.inj hu).symm⟩) h hz
  have e : Tryd.prog.bytesOf 47 = 32 := by kernel_rfl
  rw [e] at hn
  refine ⟨l.map (·.1), LawFrame.rows_map hl, by simp; omega, fun x hx => ?_⟩
  obtain ⟨y, -, rfl⟩ := List.mem_map.1 hx
  exact y.2
theorem open_pts_at {u : Value} {n : Nat} {y : DataW H × List MemPlace} (h : DataW.trod enc Tryd.prog w 0 (fun _ => true) true n 23 [u] = some y) (hz : LawFrame.Sz Tryd.prog 23 y.1) : ∃ l : List Pt, PtsAt w l u ∧ l.length ≤ reachBytes ∧ (∀ x ∈ l, x.name.size ≤ reachBytes) := by
  obtain ⟨l, hl, hn⟩ := LawFrame.open_rows_sz (fun x : { x : Pt // x.name.size ≤ reachBytes } => x.1.cells) Tryd.underlying23 Tryd.underlying45 (by kernel_rfl) (by kernel_rfl) (by decide) (fun vs hd => by
    obtain ⟨n0, y0, t0, s0⟩ := hd 0 _ rfl
    obtain ⟨n1, y1, t1, s1⟩ := hd 1 _ rfl
    obtain ⟨n2, y2, t2, s2⟩ := hd 2 _ rfl
    obtain ⟨n3, y3, t3, s3⟩ := hd 3 _ rfl
    obtain ⟨n4, y4, t4, s4⟩ := hd 4 _ rfl
    obtain ⟨n5, y5, t5, s5⟩ := hd 5 _ rfl
    obtain ⟨b0, hb0, hx0, _⟩ := DataW.trod_string Tryd.underlying9 t0
    rw [hx0] at s0
    have c0 := s0.str
    obtain ⟨b1, hb1, _⟩ := DataW.trod_int Tryd.underlying3 t1
    obtain ⟨b2, hb2, _⟩ := DataW.trod_int Tryd.underlying3 t2
    obtain ⟨b3, hb3, _⟩ := DataW.trod_int Tryd.underlying3 t3
    obtain ⟨b4, hb4, _⟩ := DataW.trod_int Tryd.underlying2 t4
    obtain ⟨b5, hb5, _⟩ := DataW.trod_int Tryd.underlying2 t5
    simp only [List.cons.injEq, and_true] at hb0 hb1 hb2 hb3 hb4 hb5
    refine ⟨⟨⟨b0, b1, b2, b3, b4, b5⟩, by simpa using c0⟩, fun j u hu => ?_⟩
    match j, hu with
    | 0, hu => exact ⟨by decide, by rw [hb0]; exact (Option.some.inj hu).symm⟩
    | 1, hu => exact ⟨by decide, by rw [hb1]; exact (Option.some.inj hu).symm⟩
    | 2, hu => exact ⟨by decide, by rw [hb2]; exact (Option.some.inj hu).symm⟩
    | 3, hu => exact ⟨by decide, by rw [hb3]; exact (Option.some.inj hu).symm⟩
    | 4, hu => exact ⟨by decide, by rw [hb4]; exact (Option.some.inj hu).symm⟩
    | 5, hu => exact ⟨by decide, by rw [hb5]; exact (Option.some.inj hu).symm⟩) h hz
  have e : Tryd.prog.bytesOf 45 = 56 := by kernel_rfl
  rw [e] at hn
  refine ⟨l.map (·.1), LawFrame.rows_map hl, by simp; omega, fun x hx => ?_⟩
  obtain ⟨y, -, rfl⟩ := List.mem_map.1 hx
  exact y.2
theorem open_css_at {u : Value} {n : Nat} {y : DataW H × List MemPlace} (h : DataW.trod enc Tryd.prog w 0 (fun _ => true) true n 24 [u] = some y) (hz : LawFrame.Sz Tryd.prog 24 y.1) : ∃ l : List Cs, CssAt w l u ∧ l.length ≤ reachBytes ∧ (∀ x ∈ l, x.name.size ≤ reachBytes) ∧ (∀ x ∈ l, x.pts.length ≤ reachBytes) := by
  obtain ⟨l, hl, hn⟩ := LawFrame.open_rows_sz (fun x : { x : Cs // x.name.size ≤ reachBytes ∧ NumsAt w x.pts x.v ∧ x.pts.length ≤ reachBytes } => x.1.cells) Tryd.underlying24 Tryd.underlying43 (by kernel_rfl) (by kernel_rfl) (by decide) (fun vs hd => by
    obtain ⟨n0, y0, t0, s0⟩ := hd 0 _ rfl
    obtain ⟨n1, y1, t1, s1⟩ := hd 1 _ rfl
    obtain ⟨n2, y2, t2, s2⟩ := hd 2 _ rfl
    obtain ⟨n3, y3, t3, s3⟩ := hd 3 _ rfl
    obtain ⟨n4, y4, t4, s4⟩ := hd 4 _ rfl
    obtain ⟨b0, hb0, hx0, _⟩ := DataW.trod_string Tryd.underlying9 t0
    rw [hx0] at s0
    have c0 := s0.str
    obtain ⟨b1, hb1, _⟩ := DataW.trod_int Tryd.underlying3 t1
    obtain ⟨b2, hb2, _⟩ := DataW.trod_int Tryd.underlying3 t2
    obtain ⟨b3, hb3, _⟩ := DataW.trod_int Tryd.underlying2 t3
    obtain ⟨L, hL, hLn⟩ := open_nums_at t4 s4
    simp only [List.cons.injEq, and_true] at hb0 hb1 hb2 hb3
    refine ⟨⟨⟨b0, b1, b2, b3, vs 4, L⟩, by simpa using c0, hL, hLn⟩, fun j u hu => ?_⟩
    match j, hu with
    | 0, hu => exact ⟨by decide, by rw [hb0]; exact (Option.some.inj hu).symm⟩
    | 1, hu => exact ⟨by decide, by rw [hb1]; exact (Option.some.inj hu).symm⟩
    | 2, hu => exact ⟨by decide, by rw [hb2]; exact (Option.some.inj hu).symm⟩
    | 3, hu => exact ⟨by decide, by rw [hb3]; exact (Option.some.inj hu).symm⟩
    | 4, hu => exact ⟨by decide, (Option.some.inj hu).symm⟩) h hz
  have e : Tryd.prog.bytesOf 43 = 64 := by kernel_rfl
  rw [e] at hn
  refine ⟨l.map (·.1), ⟨LawFrame.rows_map hl, fun x hx => ?_⟩, by simp; omega, fun x hx => ?_, fun x hx => ?_⟩
  · obtain ⟨y, -, rfl⟩ := List.mem_map.1 hx
    exact y.2.2.1
  · obtain ⟨y, -, rfl⟩ := List.mem_map.1 hx
    exact y.2.1
  · obtain ⟨y, -, rfl⟩ := List.mem_map.1 hx
    exact y.2.2.2
theorem open_efs_at {u : Value} {n : Nat} {y : DataW H × List MemPlace} (h : DataW.trod enc Tryd.prog w 0 (fun _ => true) true n 25 [u] = some y) (hz : LawFrame.Sz Tryd.prog 25 y.1) : ∃ l : List Ef, EfsAt w l u ∧ l.length ≤ reachBytes ∧ (∀ x ∈ l, x.name.size ≤ reachBytes) ∧ (∀ x ∈ l, x.cs.length ≤ reachBytes) := by
  obtain ⟨l, hl, hn⟩ := LawFrame.open_rows_sz (fun x : { x : Ef // x.name.size ≤ reachBytes ∧ NumsAt w x.cs x.v ∧ x.cs.length ≤ reachBytes } => x.1.cells) Tryd.underlying25 Tryd.underlying54 (by kernel_rfl) (by kernel_rfl) (by decide) (fun vs hd => by
    obtain ⟨n0, y0, t0, s0⟩ := hd 0 _ rfl
    obtain ⟨n1, y1, t1, s1⟩ := hd 1 _ rfl
    obtain ⟨n2, y2, t2, s2⟩ := hd 2 _ rfl
    obtain ⟨n3, y3, t3, s3⟩ := hd 3 _ rfl
    obtain ⟨n4, y4, t4, s4⟩ := hd 4 _ rfl
    obtain ⟨b0, hb0, hx0, _⟩ := DataW.trod_string Tryd.underlying9 t0
    rw [hx0] at s0
    have c0 := s0.str
    obtain ⟨b1, hb1, _⟩ := DataW.trod_int Tryd.underlying3 t1
    obtain ⟨b2, hb2, _⟩ := DataW.trod_int Tryd.underlying3 t2
    obtain ⟨b3, hb3, _⟩ := DataW.trod_int Tryd.underlying3 t3
    obtain ⟨L, hL, hLn⟩ := open_nums_at t4 s4
    simp only [List.cons.injEq, and_true] at hb0 hb1 hb2 hb3
    refine ⟨⟨⟨b0, b1, b2, b3, vs 4, L⟩, by simpa using c0, hL, hLn⟩, fun j u hu => ?_⟩
    match j, hu with
    | 0, hu => exact ⟨by decide, by rw [hb0]; exact (Option.some.inj hu).symm⟩
    | 1, hu => exact ⟨by decide, by rw [hb1]; exact (Option.some.inj hu).symm⟩
    | 2, hu => exact ⟨by decide, by rw [hb2]; exact (Option.some.inj hu).symm⟩
    | 3, hu => exact ⟨by decide, by rw [hb3]; exact (Option.some.inj hu).symm⟩
    | 4, hu => exact ⟨by decide, (Option.some.inj hu).symm⟩) h hz
  have e : Tryd.prog.bytesOf 54 = 64 := by kernel_rfl
  rw [e] at hn
  refine ⟨l.map (·.1), ⟨LawFrame.rows_map hl, fun x hx => ?_⟩, by simp; omega, fun x hx => ?_, fun x hx => ?_⟩
  · obtain ⟨y, -, rfl⟩ := List.mem_map.1 hx
    exact y.2.2.1
  · obtain ⟨y, -, rfl⟩ := List.mem_map.1 hx
    exact y.2.1
  · obtain ⟨y, -, rfl⟩ := List.mem_map.1 hx
    exact y.2.2.2
set_option maxRecDepth 100000 in
theorem open_matrix {r : Reach} (hv : Value.okWide Tryd.prog w r base 27 v) (h : DataW.Trod enc Tryd.prog w 0 (fun _ => true) true 27 v d p) (hz : LawFrame.Sz Tryd.prog 27 d) : ∃ (m : Mat) (vd vp vc ve : Value), v = m.val vd vp vc ve ∧ MatAt w m vd vp vc ve ∧ MatSmall m := by
  obtain ⟨cs, rfl, hcs, hf⟩ := LawFrame.open_struct_sz Tryd.underlying27 (by kernel_rfl) (by kernel_rfl) hv h hz
  obtain ⟨u0, n0, y0, g0, t0, s0⟩ := hf 0 _ rfl
  obtain ⟨u1, n1, y1, g1, t1, s1⟩ := hf 1 _ rfl
  obtain ⟨u2, n2, y2, g2, t2, s2⟩ := hf 2 _ rfl
  obtain ⟨u3, n3, y3, g3, t3, s3⟩ := hf 3 _ rfl
  obtain ⟨u4, n4, y4, g4, t4, s4⟩ := hf 4 _ rfl
  obtain ⟨u5, n5, y5, g5, t5, s5⟩ := hf 5 _ rfl
  obtain ⟨u6, n6, y6, g6, t6, s6⟩ := hf 6 _ rfl
  obtain ⟨u7, n7, y7, g7, t7, s7⟩ := hf 7 _ rfl
  obtain ⟨u8, n8, y8, g8, t8, s8⟩ := hf 8 _ rfl
  obtain ⟨b0, hb0, _⟩ := DataW.trod_int Tryd.underlying2 t0
  obtain ⟨b1, hb1, _⟩ := DataW.trod_int Tryd.underlying2 t1
  obtain ⟨b2, hb2, _⟩ := DataW.trod_int Tryd.underlying2 t2
  obtain ⟨b3, hb3, _⟩ := DataW.trod_int Tryd.underlying2 t3
  obtain ⟨b4, hb4, hx4, _⟩ := DataW.trod_string Tryd.underlying9 t4
  rw [hx4] at s4
  have c4 : b4.size ≤ reachBytes := by have := s4.str; simpa using this
  simp only [List.cons.injEq, and_true] at hb0 hb1 hb2 hb3 hb4
  obtain ⟨ds, hd1, hd2, hd3⟩ := open_devs_at t5 s5
  obtain ⟨ps, hp1, hp2, hp3⟩ := open_pts_at t6 s6
  obtain ⟨ccs, hc1, hc2, hc3, hc4⟩ := open_css_at t7 s7
  obtain ⟨es, he1, he2, he3, he4⟩ := open_efs_at t8 s8
  have hr := reach_small
  refine ⟨⟨b0, b1, b2, b3, b4, ds, ps, ccs, es⟩, u5, u6, u7, u8, ?_, ⟨hd1, hp1, hc1, he1⟩, ⟨by simp only; omega, by simp only; omega, by simp only; omega, by simp only; omega, by simp only; omega, fun c hc => by have := hc4 c hc; omega, fun c hc => by have := he4 c hc; omega, fun s hs => ?_⟩⟩
  · unfold Mat.val
    congr 1
    subst hb0 hb1 hb2 hb3 hb4
    exact array9 hcs g0 g1 g2 g3 g4 g5 g6 g7 g8
  · simp only [Mat.names, List.mem_append, List.mem_map] at hs
    rcases hs with ((⟨x, hx, rfl⟩ | ⟨x, hx, rfl⟩) | ⟨x, hx, rfl⟩) | ⟨x, hx, rfl⟩
    · have := hd3 x hx; omega
    · have := hp3 x hx; omega
    · have := hc3 x hx; omega
    · have := he3 x hx; omega
end
end Go.Proofs.YtckbdnkonccmiaaDoor
