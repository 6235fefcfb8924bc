/-
  CheckNames: other names, keys and lamps change nothing of what a matrix comes to.
-/
import Derived.Test.YtbpenoelmangkaaLawNamesPlain
import Derived.Deep.RegionHeld3
namespace Go.Proofs.Ytbpenoelmangkaa
open Go.RowKit
theorem cause_info : (Try.prog.info? 42).map (fun i => (i.zero, i.size, i.bytes)) = some (some (.agg #[.string (ByteArray.mk #[]), .int .i64 0, .int .i64 0, .int .i64 0, .slice none 0 0]), 5, 64) := by kernel_rfl
theorem lit_nil (w : World) (e : TypeId) (size base : Nat) (hb : base ≤ w.heap.size) : (w.alloc (.cells #[] e)).ownsRow base e size (.slice (some ⟨w.heap.size, 0, none⟩) 0 0) 0 [] :=
  World.ownsRow_lit (base := base) (e := e) (size := size) w #[] 0 hb (by simp only [maxLen]; omega) (by simp)
/-- what stands behind the append -/
theorem names_start {w w1 w2 : World} {MV XV0 XV1 : Array Value} {cs : List Cs} {Ax : Option Addr} {n capx : Nat} {g6 : Nat}
    (h0 : Below w.heap.size w w2) (h1 : Words.Blk w2 w.heap.size 27 MV) (h2 : Words.Blk w2 g6 27 XV1) (ho : w2.ownsRow w.heap.size 42 5 (.slice Ax cs.length capx) cs.length (cs.flatMap Cs.cells))
    (hn : ∀ c ∈ cs, c.name.size ≤ 1125899906842624) : XIs w g6 MV XV1 cs Ax cs w2 := by
  refine ⟨h0, h1, h2, fun hne => ?_, ⟨rfl, fun i c c' e1 e2 => by rw [e1] at e2; injection e2 with e2; subst e2; exact ⟨rfl, rfl⟩, hn⟩⟩
  rcases ho.2 with ⟨e, hl⟩ | ⟨g, cap, cur, e, hb, hg, hnc, hcm, hs, ht⟩
  · injection e with _ e2 _
    exact absurd (List.eq_nil_of_length_eq_zero e2) hne
  · injection e with e1 e2 e3
    refine ⟨g, cur, e1, hb, hg, fun i c hi d u hu => ?_⟩
    have hd : d < 5 := by rw [← Cs.cells_len c]; exact (List.getElem?_eq_some_iff.1 hu).1
    have h3 := LawFrame.flat_at Cs.cells_len cs i c hi d hd
    rw [← ht, hu, List.getElem?_take] at h3
    split at h3
    · simpa using h3
    · cases h3
set_option maxHeartbeats 4000000 in
set_option maxRecDepth 100000 in
theorem checkNames_any (w : World) (m : Mat) (vd vp vc ve : Value) (c : Nat) (hc256 : c < 256) (h : MatAt w m vd vp vc ve) (hm : MatSmall m) :
    Calls Try.prog 6 #[m.val vd vp vc ve, .int .u8 (c : Int)] w fun e w' => e = .returned (.bool true) ∧ Below w.heap.size w w' := by
  obtain ⟨r, wt, bk, cy, key, ds, ps, cs, es⟩ := m
  obtain ⟨Ad, cd, e, hcd, -⟩ := id h.1
  simp only at e
  subst e
  obtain ⟨Ap, cp, e, hcp, -⟩ := id h.2.1
  simp only at e
  subst e
  obtain ⟨Ac, cc, e, hcc, -⟩ := id h.2.2.1.1
  simp only at e
  subst e
  obtain ⟨Ae, ce, e, hce, -⟩ := id h.2.2.2.1
  simp only at e
  subst e
  have HM := Lib.hid hm
  unfold Mat.val
  simp only
  have HMAT := Lib.hid h
  have HS := Lib.hid (show HeadIs w w.heap.size ⟨r, wt, bk, cy, key, ds, ps, cs, es⟩ _ _ _ _ #[.int .i64 r, .int .i64 wt, .int .i64 bk, .int .i64 cy, .string key, .slice Ad ds.length cd, .slice Ap ps.length cp, .slice Ac cs.length cc, .slice Ae es.length ce] (w.alloc (.cells #[.int .i64 r, .int .i64 wt, .int .i64 bk, .int .i64 cy, .string key, .slice Ad ds.length cd, .slice Ap ps.length cp, .slice Ac cs.length cc, .slice Ae es.length ce] 27)) from ⟨(Below.refl _ _).alloc (Nat.le_refl _) _, h.below ((Below.refl _ _).alloc (Nat.le_refl _) _), Words.Blk.new _ _ _⟩)
  clear h hm
  go_enter Try.func6, Try.ntmps6
  go_wp2_with fail
  refine (head_any _).mono ?_
  rintro e w1 ⟨rfl, hb⟩
  replace HS := Lib.hid (HS.out.below hb)
  clear hb
  have z0 : w1.cell? ⟨w.heap.size, 0, none⟩ = some (.int .i64 r) := HS.out.2.2.cell 0
  have z1 : w1.cell? ⟨w.heap.size, 1, none⟩ = some (.int .i64 wt) := HS.out.2.2.cell 1
  have z2 : w1.cell? ⟨w.heap.size, 2, none⟩ = some (.int .i64 bk) := HS.out.2.2.cell 2
  have z3 : w1.cell? ⟨w.heap.size, 3, none⟩ = some (.int .i64 cy) := HS.out.2.2.cell 3
  have z4 : w1.cell? ⟨w.heap.size, 4, none⟩ = some (.string key) := HS.out.2.2.cell 4
  have z5 : w1.cell? ⟨w.heap.size, 5, none⟩ = some (.slice Ad ds.length cd) := HS.out.2.2.cell 5
  have z6 : w1.cell? ⟨w.heap.size, 6, none⟩ = some (.slice Ap ps.length cp) := HS.out.2.2.cell 6
  have z7 : w1.cell? ⟨w.heap.size, 7, none⟩ = some (.slice Ac cs.length cc) := HS.out.2.2.cell 7
  have z8 : w1.cell? ⟨w.heap.size, 8, none⟩ = some (.slice Ae es.length ce) := HS.out.2.2.cell 8
  go_wp2_with fail
  clear z0 z1 z2 z3 z4 z5 z6 z7 z8
  refine (great_any _ ⟨r, wt, bk, cy, key, ds, ps, cs, es⟩ _ _ _ _ HS.out.2.1 HM.out).mono ?_
  rintro e w2 ⟨⟨b, rfl⟩, hb⟩
  replace HS := Lib.hid (HS.out.below hb)
  clear hb
  cases b with
  | true =>
    go_wp2_with fail
    go_ret
    exact ⟨rfl, HS.out.1⟩
  | false =>
  have z0 : w2.cell? ⟨w.heap.size, 0, none⟩ = some (.int .i64 r) := HS.out.2.2.cell 0
  have z1 : w2.cell? ⟨w.heap.size, 1, none⟩ = some (.int .i64 wt) := HS.out.2.2.cell 1
  have z2 : w2.cell? ⟨w.heap.size, 2, none⟩ = some (.int .i64 bk) := HS.out.2.2.cell 2
  have z3 : w2.cell? ⟨w.heap.size, 3, none⟩ = some (.int .i64 cy) := HS.out.2.2.cell 3
  have z4 : w2.cell? ⟨w.heap.size, 4, none⟩ = some (.string key) := HS.out.2.2.cell 4
  have z5 : w2.cell? ⟨w.heap.size, 5, none⟩ = some (.slice Ad ds.length cd) := HS.out.2.2.cell 5
  have z6 : w2.cell? ⟨w.heap.size, 6, none⟩ = some (.slice Ap ps.length cp) := HS.out.2.2.cell 6
  have z7 : w2.cell? ⟨w.heap.size, 7, none⟩ = some (.slice Ac cs.length cc) := HS.out.2.2.cell 7
  have z8 : w2.cell? ⟨w.heap.size, 8, none⟩ = some (.slice Ae es.length ce) := HS.out.2.2.cell 8
  go_wp2_with fail
  clear z0 z1 z2 z3 z4 z5 z6 z7 z8
  refine (rRight_any _ ⟨r, wt, bk, cy, key, ds, ps, cs, es⟩ _ _ _ _ HS.out.2.1 HM.out).mono ?_
  rintro e w3 ⟨b, rfl, hb1, hb⟩
  replace HS := Lib.hid (HS.out.below hb)
  have HB1 := Lib.hid hb1
  clear hb hb1
  cases b with
  | false =>
    go_wp2_with fail
    go_ret
    exact ⟨rfl, HS.out.1⟩
  | true =>
  have HR := Lib.hid (HB1.out.1 rfl)
  clear HB1
  have hsd : ds.length ≤ 4 := HR.out.2.2.1.1
  have hsp : ps.length ≤ 16 := HR.out.2.2.2.1.1
  have hsc : cs.length ≤ 8 := HR.out.2.2.2.2.1.1
  have hse : es.length ≤ 8 := HR.out.2.2.2.2.2.1.1
  obtain ⟨i0, hi0, hz0, hz1, hz2⟩ := cs_parts
  have z0 : w3.cell? ⟨w.heap.size, 0, none⟩ = some (.int .i64 r) := HS.out.2.2.cell 0
  have z1 : w3.cell? ⟨w.heap.size, 1, none⟩ = some (.int .i64 wt) := HS.out.2.2.cell 1
  have z2 : w3.cell? ⟨w.heap.size, 2, none⟩ = some (.int .i64 bk) := HS.out.2.2.cell 2
  have z3 : w3.cell? ⟨w.heap.size, 3, none⟩ = some (.int .i64 cy) := HS.out.2.2.cell 3
  have z4 : w3.cell? ⟨w.heap.size, 4, none⟩ = some (.string key) := HS.out.2.2.cell 4
  have z5 : w3.cell? ⟨w.heap.size, 5, none⟩ = some (.slice Ad ds.length cd) := HS.out.2.2.cell 5
  have z6 : w3.cell? ⟨w.heap.size, 6, none⟩ = some (.slice Ap ps.length cp) := HS.out.2.2.cell 6
  have z7 : w3.cell? ⟨w.heap.size, 7, none⟩ = some (.slice Ac cs.length cc) := HS.out.2.2.cell 7
  have z8 : w3.cell? ⟨w.heap.size, 8, none⟩ = some (.slice Ae es.length ce) := HS.out.2.2.cell 8
  have a7 : ∀ ob, (w3.alloc ob).cell? ⟨w.heap.size, 7, none⟩ = some (.slice Ac cs.length cc) := fun ob => (HS.out.box ob).2.2.cell 7
  have b7 : ∀ ob ob2, ((w3.alloc ob).alloc ob2).cell? ⟨w.heap.size, 7, none⟩ = some (.slice Ac cs.length cc) := fun ob ob2 => ((HS.out.box ob).box ob2).2.2.cell 7
  have HLN : Hid (((w3.alloc (.cells #[.int .i64 r, .int .i64 wt, .int .i64 bk, .int .i64 cy, .string ⟨#[102, 102, 102, 102, 102, 102, 102, 102, 102, 102, 102, 102, 102, 102, 102, 102]⟩, .slice Ad ds.length cd, .slice Ap ps.length cp, .slice Ac cs.length cc, .slice Ae es.length ce] 27)).alloc (.cells #[] 42)).ownsRow w.heap.size 42 5 (.slice (some ⟨w3.heap.size + 1, 0, none⟩) 0 0) 0 []) := Lib.hid (by have := lit_nil (w3.alloc (.cells #[.int .i64 r, .int .i64 wt, .int .i64 bk, .int .i64 cy, .string ⟨#[102, 102, 102, 102, 102, 102, 102, 102, 102, 102, 102, 102, 102, 102, 102, 102]⟩, .slice Ad ds.length cd, .slice Ap ps.length cp, .slice Ac cs.length cc, .slice Ae es.length ce] 27)) 42 5 w.heap.size (by have := HS.out.1.size; simp; omega); simpa using this)
  have HRD : Hid (Words.Reads ((w3.alloc (.cells #[.int .i64 r, .int .i64 wt, .int .i64 bk, .int .i64 cy, .string ⟨#[102, 102, 102, 102, 102, 102, 102, 102, 102, 102, 102, 102, 102, 102, 102, 102]⟩, .slice Ad ds.length cd, .slice Ap ps.length cp, .slice Ac cs.length cc, .slice Ae es.length ce] 27)).alloc (.cells #[] 42)) ((w3.alloc (.cells #[.int .i64 r, .int .i64 wt, .int .i64 bk, .int .i64 cy, .string ⟨#[102, 102, 102, 102, 102, 102, 102, 102, 102, 102, 102, 102, 102, 102, 102, 102]⟩, .slice Ad ds.length cd, .slice Ap ps.length cp, .slice Ac cs.length cc, .slice Ae es.length ce] 27)).alloc (.cells #[] 42)).heap.size 5 Ac cs.length (cs.flatMap Cs.cells)) := Lib.hid (by
    obtain ⟨A', c', e, -, hr⟩ := LawFrame.RowsAt.reads Cs.cells_len (by decide) ((HS.out.box (.cells #[.int .i64 r, .int .i64 wt, .int .i64 bk, .int .i64 cy, .string ⟨#[102, 102, 102, 102, 102, 102, 102, 102, 102, 102, 102, 102, 102, 102, 102, 102]⟩, .slice Ad ds.length cd, .slice Ap ps.length cp, .slice Ac cs.length cc, .slice Ae es.length ce] 27)).box (.cells #[] 42)).2.1.2.2.1.1
    injection e with e1 _ _
    subst e1
    exact hr)
  have HO : Hid (∀ u ∈ cs.flatMap Cs.cells, u.oneCell' = true) := Lib.hid (fun u hu => by
    obtain ⟨x, hx, hux⟩ := List.mem_flatMap.1 hu
    obtain ⟨A', c', e, -⟩ := HMAT.out.2.2.1.2 x hx
    exact one_cs x A' _ c' e u hux)
  have hwl : w.heap.size ≤ w3.heap.size := HS.out.1.size
  have hwl2 : w.heap.size < w3.heap.size := HS.out.2.2.lt
  have HB2 := Lib.hid ((HS.out.box (.cells #[.int .i64 r, .int .i64 wt, .int .i64 bk, .int .i64 cy, .string ⟨#[102, 102, 102, 102, 102, 102, 102, 102, 102, 102, 102, 102, 102, 102, 102, 102]⟩, .slice Ad ds.length cd, .slice Ap ps.length cp, .slice Ac cs.length cc, .slice Ae es.length ce] 27)).box (.cells #[] 42))
  have HX2 : Hid (Words.Blk ((w3.alloc (.cells #[.int .i64 r, .int .i64 wt, .int .i64 bk, .int .i64 cy, .string ⟨#[102, 102, 102, 102, 102, 102, 102, 102, 102, 102, 102, 102, 102, 102, 102, 102]⟩, .slice Ad ds.length cd, .slice Ap ps.length cp, .slice Ac cs.length cc, .slice Ae es.length ce] 27)).alloc (.cells #[] 42)) w3.heap.size 27 #[.int .i64 r, .int .i64 wt, .int .i64 bk, .int .i64 cy, .string ⟨#[102, 102, 102, 102, 102, 102, 102, 102, 102, 102, 102, 102, 102, 102, 102, 102]⟩, .slice Ad ds.length cd, .slice Ap ps.length cp, .slice Ac cs.length cc, .slice Ae es.length ce]) := Lib.hid ((Words.Blk.new _ _ _).alloc _)
  go_upto_region 6 with fail
  go_upto_region 7 with (at_builtin; refine Words.wpList_append_any _ rfl (.tmp 20) (.tmp 22) _ rfl w.heap.size 42 i0 _ 5 64 Try.underlying24 hi0 hz0 hz1 hz2 rfl (by omega) (.slice (some ⟨w3.heap.size + 1, 0, none⟩) 0 0) 0 [] rfl HLN.out _ Ac cs.length cc (cs.flatMap Cs.cells) rfl HRD.out HO.out (by simp only [maxLen]; omega) (by omega) (by simp; omega) ?_; intro v' w4 ho hg hat; rw [Nat.zero_add, List.nil_append] at ho; obtain ⟨Ax, capx, e⟩ := own_form ho; subst e; have HOW := Lib.hid ho; have HB4 := Lib.hid (HB2.out.1.grown hg (by simp; omega) (fun k hk => by simp [Value.ownBlock] at hk; omega)); have HM4 : Hid (Words.Blk w4 w.heap.size 27 #[.int .i64 r, .int .i64 wt, .int .i64 bk, .int .i64 cy, .string key, .slice Ad ds.length cd, .slice Ap ps.length cp, .slice Ac cs.length cc, .slice Ae es.length ce]) := Lib.hid (HB2.out.2.2.grown hg (by simp [Value.ownBlock]; omega)); have HX4 : Hid (Words.Blk w4 w3.heap.size 27 #[.int .i64 r, .int .i64 wt, .int .i64 bk, .int .i64 cy, .string ⟨#[102, 102, 102, 102, 102, 102, 102, 102, 102, 102, 102, 102, 102, 102, 102, 102]⟩, .slice Ad ds.length cd, .slice Ap ps.length cp, .slice Ac cs.length cc, .slice Ae es.length ce]) := Lib.hid (HX2.out.grown hg (by simp [Value.ownBlock])); have f7 := HX4.out.frozen 7; have c7 : w4.cell? ⟨w3.heap.size, 7, none⟩ = some (.slice Ac cs.length cc) := HX4.out.cell 7; clear ho hg hat)
  have hcapx : cs.length ≤ capx := by
    rcases HOW.out.2 with ⟨e, hl⟩ | ⟨g, cap, cur, e, -, -, hnc, -⟩
    · injection e with _ e2 e3; omega
    · injection e with _ e2 e3; omega
  have HXI : Hid (XIs w w3.heap.size #[.int .i64 r, .int .i64 wt, .int .i64 bk, .int .i64 cy, .string key, .slice Ad ds.length cd, .slice Ap ps.length cp, .slice Ac cs.length cc, .slice Ae es.length ce] #[.int .i64 r, .int .i64 wt, .int .i64 bk, .int .i64 cy, .string ⟨#[102, 102, 102, 102, 102, 102, 102, 102, 102, 102, 102, 102, 102, 102, 102, 102]⟩, .slice Ad ds.length cd, .slice Ap ps.length cp, .slice Ax cs.length capx, .slice Ae es.length ce] cs Ax cs (w4.setCell ⟨w3.heap.size, 7, none⟩ (.slice Ax cs.length capx))) := Lib.hid (names_start (XV0 := #[.int .i64 r, .int .i64 wt, .int .i64 bk, .int .i64 cy, .string ⟨#[102, 102, 102, 102, 102, 102, 102, 102, 102, 102, 102, 102, 102, 102, 102, 102]⟩, .slice Ad ds.length cd, .slice Ap ps.length cp, .slice Ac cs.length cc, .slice Ae es.length ce]) (w1 := w4) (n := 0) (HB4.out.setCell hwl _) (HM4.out.far (by simp; omega) _) (HX4.out.set_ 7 _) (HOW.out.kept (grown_set w4 w3.heap.size 7 _) (.inr (Words.own_blk_ne HOW.out HX4.out (by decide)))) (fun c hc => HM.out.names _ (by simp only [Mat.names, List.mem_append, List.mem_map]; exact .inl (.inr ⟨c, hc, rfl⟩))))
  generalize w4.setCell ⟨w3.heap.size, 7, none⟩ (.slice Ax cs.length capx) = w5 at *
  generalize w3.heap.size = g6 at *
  clear f7 c7 HB4 HM4 HX4 HOW HLN HRD HO HB2 HX2 a7 b7 z0 z1 z2 z3 z4 z5 z6 z7 z8 hwl hwl2 HS
  have hlm : (c : Int).tmod 6 = ((c % 6 : Nat) : Int) := Int.ofNat_tmod c 6
  obtain ⟨lm, hlm0⟩ : ∃ lm, lm = c % 6 := ⟨_, rfl⟩
  have hlm1 : lm ≤ 5 := by omega
  rw [← hlm0] at hlm
  clear hlm0
  go_wp2_with fail
  go_loopw [7] (fun i wr => ∃ k : Nat, k ≤ cs.length ∧ i = .int .i64 (k : Int) ∧ Hid (∃ cs', XIs w g6 #[.int .i64 r, .int .i64 wt, .int .i64 bk, .int .i64 cy, .string key, .slice Ad ds.length cd, .slice Ap ps.length cp, .slice Ac cs.length cc, .slice Ae es.length ce] #[.int .i64 r, .int .i64 wt, .int .i64 bk, .int .i64 cy, .string ⟨#[102, 102, 102, 102, 102, 102, 102, 102, 102, 102, 102, 102, 102, 102, 102, 102]⟩, .slice Ad ds.length cd, .slice Ap ps.length cp, .slice Ax cs.length capx, .slice Ae es.length ce] cs Ax cs' wr)) (fun i _ => cs.length - (intOf i).toNat)
  case atStart => exact ⟨0, Nat.zero_le _, rfl, Lib.hid ⟨_, HXI.out⟩⟩
  case round =>
    clear HXI
    obtain ⟨k, hk, rfl, HE⟩ := hrel
    obtain ⟨cs', hxi⟩ := HE.out
    have HXI := Lib.hid hxi
    clear hxi HE
    have hk0 : (0 : Int) ≤ (k : Int) := by omega
    by_cases hlt : k < cs.length
    · obtain ⟨c0, hc0⟩ : ∃ c0, cs'[k]? = some c0 := ⟨_, List.getElem?_eq_getElem (by rw [HXI.out.twin.len]; exact hlt)⟩
      have HC0 := Lib.hid hc0
      obtain ⟨gx, hA, hgx, hgl, hfz, hcl⟩ := HXI.out.at_ hc0
      have HA := Lib.hid hA
      have hk1 : (k : Int) < (cs.length : Int) := by omega
      have z7 : wr.cell? ⟨g6, 7, none⟩ = some (.slice (some ⟨gx, 0, none⟩) cs.length capx) := by rw [← hA]; exact HXI.out.xblk.cell 7
      have a7 : ∀ ob, (wr.alloc ob).cell? ⟨g6, 7, none⟩ = some (.slice (some ⟨gx, 0, none⟩) cs.length capx) := fun ob => by rw [← hA]; exact (HXI.out.xblk.alloc ob).cell 7
      have o0 : ∀ ob, (wr.alloc ob).cell? ⟨gx, k * 5, none⟩ = some (.string c0.name) := fun ob => by rw [World.cell?_alloc_lt _ _ _ hgl]; exact hcl 0 _ rfl
      have f0 : ∀ ob, (wr.alloc ob).frozen? ⟨gx, k * 5, none⟩ = false := fun ob => by
        obtain ⟨gx', cur, e1, -, e3, -⟩ := HXI.out.row (by intro e; subst e; simp at hc0)
        rw [hA] at e1
        injection e1 with e1
        injection e1 with e1 _ _
        subst e1
        exact (e3.alloc ob).frozen _
      have hw8 : IntKind.u8.wrap (97 + (k : Int)) = 97 + (k : Int) := IntWalk.u8_in _ (by omega)
      obtain ⟨s, hs1, hcv⟩ := byte_string (P := Try.prog) wr Try.underlying46 Try.underlying5 Try.underlying9 (97 + (k : Int)) (by omega) (by omega) 5
      have HX1 := Lib.hid (HXI.out.more ((Below.refl _ _).alloc (Nat.le_refl _) (.cells #[.int .u8 (97 + (k : Int))] 5)))
      clear hc0 hA hcl hfz
      obtain ⟨NM, hNM⟩ : ∃ N : ByteArray, N = ((⟨#[122, 122]⟩ : ByteArray) ++ s ++ ⟨#[122, 122, 122, 122]⟩) := ⟨_, rfl⟩
      have hNs : NM.size ≤ 1125899906842624 := by rw [hNM, ByteArray.size_append, ByteArray.size_append, hs1]; decide
      have HX2 := Lib.hid (show XIs w g6 #[.int .i64 r, .int .i64 wt, .int .i64 bk, .int .i64 cy, .string key, .slice Ad ds.length cd, .slice Ap ps.length cp, .slice Ac cs.length cc, .slice Ae es.length ce] #[.int .i64 r, .int .i64 wt, .int .i64 bk, .int .i64 cy, .string ⟨#[102, 102, 102, 102, 102, 102, 102, 102, 102, 102, 102, 102, 102, 102, 102, 102]⟩, .slice Ad ds.length cd, .slice Ap ps.length cp, .slice Ax cs.length capx, .slice Ae es.length ce] cs Ax (cs'.set k { c0 with name := NM }) ((wr.setCell ⟨gx, k * 5, none⟩ (.string NM)).alloc (.cells #[.int .u8 (97 + (k : Int))] 5)) from (HXI.out.store (c2 := { c0 with name := NM }) HA.out HC0.out 0 (.string NM) (by omega) (fun j x hx => match j, hx with
        | 0, hx => .inl ⟨rfl, (Option.some.inj hx).symm⟩
        | j + 1, hx => .inr ⟨by omega, hx⟩) rfl rfl hNs).more ((Below.refl _ _).alloc (Nat.le_refl _) _))
      go_upto_region 11 with fail
      rw [← hNM]
      generalize (wr.setCell ⟨gx, k * 5, none⟩ (.string NM)).alloc (.cells #[.int .u8 (97 + (k : Int))] 5) = wb at *
      have hset : (cs'.set k { c0 with name := NM })[k]? = some { c0 with name := NM } := List.getElem?_set_self (List.getElem?_eq_some_iff.1 HC0.out).1
      have HSET := Lib.hid hset
      obtain ⟨gx2, hA2, -, -, hfz, hcl⟩ := HX2.out.at_ hset
      have hgg : gx2 = gx := by
        have h := HA.out
        rw [hA2] at h
        injection h with h
        injection h with h _ _
      subst hgg
      have o2 : wb.cell? ⟨gx2, k * 5 + 2, none⟩ = some (.int .i64 c0.lamp) := hcl 2 _ rfl
      have f2 : wb.frozen? ⟨gx2, k * 5 + 2, none⟩ = false := hfz _
      have y7 : wb.cell? ⟨g6, 7, none⟩ = some (.slice (some ⟨gx2, 0, none⟩) cs.length capx) := by rw [← hA2]; exact HX2.out.xblk.cell 7
      have HX3 := Lib.hid (HX2.out.store (c2 := { c0 with name := NM, lamp := 1 + (lm : Int) }) HA.out HSET.out 2 (.int .i64 (1 + (lm : Int))) (by omega) (fun j x hx => match j, hx with
        | 0, hx => .inr ⟨by omega, hx⟩
        | 1, hx => .inr ⟨by omega, hx⟩
        | 2, hx => .inl ⟨rfl, (Option.some.inj hx).symm⟩
        | j + 3, hx => .inr ⟨by omega, hx⟩) rfl rfl hNs)
      clear hset hcl hfz hA2 z7 a7 o0 f0 hcv hs1 hNM hNs HX1 HX2 hw8 hgx hgl
      go_wp2_with fail
      go_roundw
      case rel => exact ⟨k + 1, by omega, by go_num, Lib.hid ⟨_, HX3.out⟩⟩
      case measure => simp [intOf]; omega
    · have hk2 : ¬ (k : Int) < (cs.length : Int) := by omega
      have hlen := HXI.out.twin.len
      have z7 : wr.cell? ⟨g6, 7, none⟩ = some (.slice Ax cs.length capx) := HXI.out.xblk.cell 7
      go_upto_region 12 with fail
      clear z7 hk2 hlt hk hk0
      have HTW := Lib.hid HXI.out.twin
      have HMX : Hid (∀ w', XIs w g6 #[.int .i64 r, .int .i64 wt, .int .i64 bk, .int .i64 cy, .string key, .slice Ad ds.length cd, .slice Ap ps.length cp, .slice Ac cs.length cc, .slice Ae es.length ce] #[.int .i64 r, .int .i64 wt, .int .i64 bk, .int .i64 cy, .string ⟨#[102, 102, 102, 102, 102, 102, 102, 102, 102, 102, 102, 102, 102, 102, 102, 102]⟩, .slice Ad ds.length cd, .slice Ap ps.length cp, .slice Ax cs.length capx, .slice Ae es.length ce] cs Ax cs' w' → MatAt w' ⟨r, wt, bk, cy, ⟨#[102, 102, 102, 102, 102, 102, 102, 102, 102, 102, 102, 102, 102, 102, 102, 102]⟩, ds, ps, cs', es⟩ (.slice Ad ds.length cd) (.slice Ap ps.length cp) (.slice Ax cs.length capx) (.slice Ae es.length ce)) := Lib.hid (fun w' h => by
        have h2 := h.mat (m := ⟨r, wt, bk, cy, key, ds, ps, cs, es⟩) (capx := capx) HMAT.out (by rw [h.twin.len]; exact hcapx) ⟨#[102, 102, 102, 102, 102, 102, 102, 102, 102, 102, 102, 102, 102, 102, 102, 102]⟩
        rw [h.twin.len] at h2
        exact h2)
      have HSX : Hid (MatSmall ⟨r, wt, bk, cy, ⟨#[102, 102, 102, 102, 102, 102, 102, 102, 102, 102, 102, 102, 102, 102, 102, 102]⟩, ds, ps, cs', es⟩) := Lib.hid (x_small (m := ⟨r, wt, bk, cy, key, ds, ps, cs, es⟩) HM.out HTW.out ⟨#[102, 102, 102, 102, 102, 102, 102, 102, 102, 102, 102, 102, 102, 102, 102, 102]⟩ (by decide))
      have z0 : wr.cell? ⟨g6, 0, none⟩ = some (.int .i64 r) := HXI.out.xblk.cell 0
      have z1 : wr.cell? ⟨g6, 1, none⟩ = some (.int .i64 wt) := HXI.out.xblk.cell 1
      have z2 : wr.cell? ⟨g6, 2, none⟩ = some (.int .i64 bk) := HXI.out.xblk.cell 2
      have z3 : wr.cell? ⟨g6, 3, none⟩ = some (.int .i64 cy) := HXI.out.xblk.cell 3
      have z4 : wr.cell? ⟨g6, 4, none⟩ = some (.string ⟨#[102, 102, 102, 102, 102, 102, 102, 102, 102, 102, 102, 102, 102, 102, 102, 102]⟩) := HXI.out.xblk.cell 4
      have z5 : wr.cell? ⟨g6, 5, none⟩ = some (.slice Ad ds.length cd) := HXI.out.xblk.cell 5
      have z6 : wr.cell? ⟨g6, 6, none⟩ = some (.slice Ap ps.length cp) := HXI.out.xblk.cell 6
      have z7 : wr.cell? ⟨g6, 7, none⟩ = some (.slice Ax cs.length capx) := HXI.out.xblk.cell 7
      have z8 : wr.cell? ⟨g6, 8, none⟩ = some (.slice Ae es.length ce) := HXI.out.xblk.cell 8
      go_wp2_with fail
      clear z0 z1 z2 z3 z4 z5 z6 z7 z8
      refine (rRight_any _ ⟨r, wt, bk, cy, ⟨#[102, 102, 102, 102, 102, 102, 102, 102, 102, 102, 102, 102, 102, 102, 102, 102]⟩, ds, ps, cs', es⟩ _ _ _ _ (HMX.out _ HXI.out) HSX.out).mono ?_
      rintro e w6 ⟨b, rfl, hb1, hb⟩
      replace HXI := Lib.hid (HXI.out.more hb)
      have HB1 := Lib.hid hb1
      clear hb hb1
      cases b with
      | false =>
        go_wp2_with fail
        go_ret
        exact ⟨rfl, HXI.out.below⟩
      | true =>
      have HRX := Lib.hid (HB1.out.1 rfl)
      clear HB1
      go_wp2_with fail
      have HCM : Hid (∀ w', XIs w g6 #[.int .i64 r, .int .i64 wt, .int .i64 bk, .int .i64 cy, .string key, .slice Ad ds.length cd, .slice Ap ps.length cp, .slice Ac cs.length cc, .slice Ae es.length ce] #[.int .i64 r, .int .i64 wt, .int .i64 bk, .int .i64 cy, .string ⟨#[102, 102, 102, 102, 102, 102, 102, 102, 102, 102, 102, 102, 102, 102, 102, 102]⟩, .slice Ad ds.length cd, .slice Ap ps.length cp, .slice Ax cs.length capx, .slice Ae es.length ce] cs Ax cs' w' → MatAt w' ⟨r, wt, bk, cy, key, ds, ps, cs, es⟩ (.slice Ad ds.length cd) (.slice Ap ps.length cp) (.slice Ac cs.length cc) (.slice Ae es.length ce)) := Lib.hid (fun w' h => HMAT.out.below h.below)
      have z7 : w6.cell? ⟨g6, 7, none⟩ = some (.slice Ax cs.length capx) := HXI.out.xblk.cell 7
      clear z7
      go_loopw [8] (fun i wr => ∃ k : Nat, k ≤ cs.length ∧ i = .int .i64 (k : Int) ∧ Hid (XIs w g6 #[.int .i64 r, .int .i64 wt, .int .i64 bk, .int .i64 cy, .string key, .slice Ad ds.length cd, .slice Ap ps.length cp, .slice Ac cs.length cc, .slice Ae es.length ce] #[.int .i64 r, .int .i64 wt, .int .i64 bk, .int .i64 cy, .string ⟨#[102, 102, 102, 102, 102, 102, 102, 102, 102, 102, 102, 102, 102, 102, 102, 102]⟩, .slice Ad ds.length cd, .slice Ap ps.length cp, .slice Ax cs.length capx, .slice Ae es.length ce] cs Ax cs' wr)) (fun i _ => cs.length - (intOf i).toNat)
      case atStart => exact ⟨0, Nat.zero_le _, rfl, HXI⟩
      case round =>
        clear HXI
        obtain ⟨k, hk, rfl, HXI⟩ := hrel
        have hk0 : (0 : Int) ≤ (k : Int) := by omega
        by_cases hlt : k < cs.length
        · obtain ⟨c0, hc0⟩ : ∃ c0, cs[k]? = some c0 := ⟨_, List.getElem?_eq_getElem hlt⟩
          obtain ⟨c1, hc1⟩ : ∃ c1, cs'[k]? = some c1 := ⟨_, List.getElem?_eq_getElem (by rw [HTW.out.len]; exact hlt)⟩
          have hk1 : (k : Int) < (cs.length : Int) := by omega
          obtain ⟨Bv, hBv⟩ : ∃ B, B = boundAt ⟨r, wt, bk, cy, key, ds, ps, cs, es⟩ c0 := ⟨_, rfl⟩
          obtain ⟨L, hL⟩ : ∃ L, L = effectsF ⟨r, wt, bk, cy, key, ds, ps, cs, es⟩ (k : Int) := ⟨_, rfl⟩
          have hLl : L.length ≤ 1125899906842624 := by rw [hL]; exact Nat.le_trans (effects_le' (m := ⟨r, wt, bk, cy, key, ds, ps, cs, es⟩) _) (by simp only; omega)
          have HCB1 : Hid (∀ w', XIs w g6 #[.int .i64 r, .int .i64 wt, .int .i64 bk, .int .i64 cy, .string key, .slice Ad ds.length cd, .slice Ap ps.length cp, .slice Ac cs.length cc, .slice Ae es.length ce] #[.int .i64 r, .int .i64 wt, .int .i64 bk, .int .i64 cy, .string ⟨#[102, 102, 102, 102, 102, 102, 102, 102, 102, 102, 102, 102, 102, 102, 102, 102]⟩, .slice Ad ds.length cd, .slice Ap ps.length cp, .slice Ax cs.length capx, .slice Ae es.length ce] cs Ax cs' w' → Calls Try.prog 15 #[.agg #[.int .i64 r, .int .i64 wt, .int .i64 bk, .int .i64 cy, .string ⟨#[102, 102, 102, 102, 102, 102, 102, 102, 102, 102, 102, 102, 102, 102, 102, 102]⟩, .slice Ad ds.length cd, .slice Ap ps.length cp, .slice Ax cs.length capx, .slice Ae es.length ce], .int .i64 (k : Int)] w' fun e w'' => e = .returned (.int .i64 Bv) ∧ Below w'.heap.size w' w'') := Lib.hid (fun w' h => bound_any w' ⟨r, wt, bk, cy, ⟨#[102, 102, 102, 102, 102, 102, 102, 102, 102, 102, 102, 102, 102, 102, 102, 102]⟩, ds, ps, cs', es⟩ _ _ _ _ (HMX.out w' h) HSX.out HRX.out k c1 hc1 Bv (by rw [hBv]; exact (x_bound (m := ⟨r, wt, bk, cy, key, ds, ps, cs, es⟩) ⟨#[102, 102, 102, 102, 102, 102, 102, 102, 102, 102, 102, 102, 102, 102, 102, 102]⟩ (HTW.out.at_ k c0 c1 hc0 hc1).2).symm))
          have HCB2 : Hid (∀ w', XIs w g6 #[.int .i64 r, .int .i64 wt, .int .i64 bk, .int .i64 cy, .string key, .slice Ad ds.length cd, .slice Ap ps.length cp, .slice Ac cs.length cc, .slice Ae es.length ce] #[.int .i64 r, .int .i64 wt, .int .i64 bk, .int .i64 cy, .string ⟨#[102, 102, 102, 102, 102, 102, 102, 102, 102, 102, 102, 102, 102, 102, 102, 102]⟩, .slice Ad ds.length cd, .slice Ap ps.length cp, .slice Ax cs.length capx, .slice Ae es.length ce] cs Ax cs' w' → Calls Try.prog 15 #[.agg #[.int .i64 r, .int .i64 wt, .int .i64 bk, .int .i64 cy, .string key, .slice Ad ds.length cd, .slice Ap ps.length cp, .slice Ac cs.length cc, .slice Ae es.length ce], .int .i64 (k : Int)] w' fun e w'' => e = .returned (.int .i64 Bv) ∧ Below w'.heap.size w' w'') := Lib.hid (fun w' h => bound_any w' ⟨r, wt, bk, cy, key, ds, ps, cs, es⟩ _ _ _ _ (HCM.out w' h) HM.out HR.out k c0 hc0 Bv hBv)
          have HCE1 : Hid (∀ w', XIs w g6 #[.int .i64 r, .int .i64 wt, .int .i64 bk, .int .i64 cy, .string key, .slice Ad ds.length cd, .slice Ap ps.length cp, .slice Ac cs.length cc, .slice Ae es.length ce] #[.int .i64 r, .int .i64 wt, .int .i64 bk, .int .i64 cy, .string ⟨#[102, 102, 102, 102, 102, 102, 102, 102, 102, 102, 102, 102, 102, 102, 102, 102]⟩, .slice Ad ds.length cd, .slice Ap ps.length cp, .slice Ax cs.length capx, .slice Ae es.length ce] cs Ax cs' w' → Calls Try.prog 11 #[.agg #[.int .i64 r, .int .i64 wt, .int .i64 bk, .int .i64 cy, .string ⟨#[102, 102, 102, 102, 102, 102, 102, 102, 102, 102, 102, 102, 102, 102, 102, 102]⟩, .slice Ad ds.length cd, .slice Ap ps.length cp, .slice Ax cs.length capx, .slice Ae es.length ce], .int .i64 (k : Int)] w' (PicksIs L w')) := Lib.hid (fun w' h => by
            have h2 := effects_any w' ⟨r, wt, bk, cy, ⟨#[102, 102, 102, 102, 102, 102, 102, 102, 102, 102, 102, 102, 102, 102, 102, 102]⟩, ds, ps, cs', es⟩ _ _ _ _ (HMX.out w' h) HSX.out HRX.out (k : Int)
            rw [show effectsF ⟨r, wt, bk, cy, ⟨#[102, 102, 102, 102, 102, 102, 102, 102, 102, 102, 102, 102, 102, 102, 102, 102]⟩, ds, ps, cs', es⟩ (k : Int) = L by rw [hL]; exact x_effects (m := ⟨r, wt, bk, cy, key, ds, ps, cs, es⟩) ⟨#[102, 102, 102, 102, 102, 102, 102, 102, 102, 102, 102, 102, 102, 102, 102, 102]⟩ HTW.out.len (k : Int)] at h2
            exact h2)
          have HCE2 : Hid (∀ w', XIs w g6 #[.int .i64 r, .int .i64 wt, .int .i64 bk, .int .i64 cy, .string key, .slice Ad ds.length cd, .slice Ap ps.length cp, .slice Ac cs.length cc, .slice Ae es.length ce] #[.int .i64 r, .int .i64 wt, .int .i64 bk, .int .i64 cy, .string ⟨#[102, 102, 102, 102, 102, 102, 102, 102, 102, 102, 102, 102, 102, 102, 102, 102]⟩, .slice Ad ds.length cd, .slice Ap ps.length cp, .slice Ax cs.length capx, .slice Ae es.length ce] cs Ax cs' w' → Calls Try.prog 11 #[.agg #[.int .i64 r, .int .i64 wt, .int .i64 bk, .int .i64 cy, .string key, .slice Ad ds.length cd, .slice Ap ps.length cp, .slice Ac cs.length cc, .slice Ae es.length ce], .int .i64 (k : Int)] w' (PicksIs L w')) := Lib.hid (fun w' h => by
            have h2 := effects_any w' ⟨r, wt, bk, cy, key, ds, ps, cs, es⟩ _ _ _ _ (HCM.out w' h) HM.out HR.out (k : Int)
            rw [← hL] at h2
            exact h2)
          clear hc0 hc1 hBv hL
          have z7 : wr.cell? ⟨g6, 7, none⟩ = some (.slice Ax cs.length capx) := HXI.out.xblk.cell 7
          go_upto_region 17 with fail
          clear z7
          replace HXI := Lib.hid HXI.out.drew
          have z0 : wr.cell? ⟨g6, 0, none⟩ = some (.int .i64 r) := HXI.out.xblk.cell 0
          have a0 : wr.cell? ⟨w.heap.size, 0, none⟩ = some (.int .i64 r) := HXI.out.own.cell 0
          have z1 : wr.cell? ⟨g6, 1, none⟩ = some (.int .i64 wt) := HXI.out.xblk.cell 1
          have a1 : wr.cell? ⟨w.heap.size, 1, none⟩ = some (.int .i64 wt) := HXI.out.own.cell 1
          have z2 : wr.cell? ⟨g6, 2, none⟩ = some (.int .i64 bk) := HXI.out.xblk.cell 2
          have a2 : wr.cell? ⟨w.heap.size, 2, none⟩ = some (.int .i64 bk) := HXI.out.own.cell 2
          have z3 : wr.cell? ⟨g6, 3, none⟩ = some (.int .i64 cy) := HXI.out.xblk.cell 3
          have a3 : wr.cell? ⟨w.heap.size, 3, none⟩ = some (.int .i64 cy) := HXI.out.own.cell 3
          have z4 : wr.cell? ⟨g6, 4, none⟩ = some (.string ⟨#[102, 102, 102, 102, 102, 102, 102, 102, 102, 102, 102, 102, 102, 102, 102, 102]⟩) := HXI.out.xblk.cell 4
          have a4 : wr.cell? ⟨w.heap.size, 4, none⟩ = some (.string key) := HXI.out.own.cell 4
          have z5 : wr.cell? ⟨g6, 5, none⟩ = some (.slice Ad ds.length cd) := HXI.out.xblk.cell 5
          have a5 : wr.cell? ⟨w.heap.size, 5, none⟩ = some (.slice Ad ds.length cd) := HXI.out.own.cell 5
          have z6 : wr.cell? ⟨g6, 6, none⟩ = some (.slice Ap ps.length cp) := HXI.out.xblk.cell 6
          have a6 : wr.cell? ⟨w.heap.size, 6, none⟩ = some (.slice Ap ps.length cp) := HXI.out.own.cell 6
          have z7 : wr.cell? ⟨g6, 7, none⟩ = some (.slice Ax cs.length capx) := HXI.out.xblk.cell 7
          have a7 : wr.cell? ⟨w.heap.size, 7, none⟩ = some (.slice Ac cs.length cc) := HXI.out.own.cell 7
          have z8 : wr.cell? ⟨g6, 8, none⟩ = some (.slice Ae es.length ce) := HXI.out.xblk.cell 8
          have a8 : wr.cell? ⟨w.heap.size, 8, none⟩ = some (.slice Ae es.length ce) := HXI.out.own.cell 8
          go_region_held3 (fun w' => w'.cell? ⟨g6, 0, none⟩ = some (.int .i64 r) ∧ w'.cell? ⟨w.heap.size, 0, none⟩ = some (.int .i64 r) ∧ w'.cell? ⟨g6, 1, none⟩ = some (.int .i64 wt) ∧ w'.cell? ⟨w.heap.size, 1, none⟩ = some (.int .i64 wt) ∧ w'.cell? ⟨g6, 2, none⟩ = some (.int .i64 bk) ∧ w'.cell? ⟨w.heap.size, 2, none⟩ = some (.int .i64 bk) ∧ w'.cell? ⟨g6, 3, none⟩ = some (.int .i64 cy) ∧ w'.cell? ⟨w.heap.size, 3, none⟩ = some (.int .i64 cy) ∧ w'.cell? ⟨g6, 4, none⟩ = some (.string ⟨#[102, 102, 102, 102, 102, 102, 102, 102, 102, 102, 102, 102, 102, 102, 102, 102]⟩) ∧ w'.cell? ⟨w.heap.size, 4, none⟩ = some (.string key) ∧ w'.cell? ⟨g6, 5, none⟩ = some (.slice Ad ds.length cd) ∧ w'.cell? ⟨w.heap.size, 5, none⟩ = some (.slice Ad ds.length cd) ∧ w'.cell? ⟨g6, 6, none⟩ = some (.slice Ap ps.length cp) ∧ w'.cell? ⟨w.heap.size, 6, none⟩ = some (.slice Ap ps.length cp) ∧ w'.cell? ⟨g6, 7, none⟩ = some (.slice Ax cs.length capx) ∧ w'.cell? ⟨w.heap.size, 7, none⟩ = some (.slice Ac cs.length cc) ∧ w'.cell? ⟨g6, 8, none⟩ = some (.slice Ae es.length ce) ∧ w'.cell? ⟨w.heap.size, 8, none⟩ = some (.slice Ae es.length ce))
            (exact ⟨z0, a0, z1, a1, z2, a2, z3, a3, z4, a4, z5, a5, z6, a6, z7, a7, z8, a8⟩)
            (first
              | (go_at_call 15; (with_reducible show Calls _ _ #[.agg #[.int .i64 r, .int .i64 wt, .int .i64 bk, .int .i64 cy, .string ⟨#[102, 102, 102, 102, 102, 102, 102, 102, 102, 102, 102, 102, 102, 102, 102, 102]⟩, .slice Ad ds.length cd, .slice Ap ps.length cp, .slice Ax cs.length capx, .slice Ae es.length ce], _] _ _); refine (HCB1.out _ HXI.out).mono ?_; rintro e w7 ⟨rfl, hb⟩; replace HXI := Lib.hid (HXI.out.more hb); replace z0 : w7.cell? ⟨g6, 0, none⟩ = some (.int .i64 r) := HXI.out.xblk.cell 0; replace a0 : w7.cell? ⟨w.heap.size, 0, none⟩ = some (.int .i64 r) := HXI.out.own.cell 0; replace z1 : w7.cell? ⟨g6, 1, none⟩ = some (.int .i64 wt) := HXI.out.xblk.cell 1; replace a1 : w7.cell? ⟨w.heap.size, 1, none⟩ = some (.int .i64 wt) := HXI.out.own.cell 1; replace z2 : w7.cell? ⟨g6, 2, none⟩ = some (.int .i64 bk) := HXI.out.xblk.cell 2; replace a2 : w7.cell? ⟨w.heap.size, 2, none⟩ = some (.int .i64 bk) := HXI.out.own.cell 2; replace z3 : w7.cell? ⟨g6, 3, none⟩ = some (.int .i64 cy) := HXI.out.xblk.cell 3; replace a3 : w7.cell? ⟨w.heap.size, 3, none⟩ = some (.int .i64 cy) := HXI.out.own.cell 3; replace z4 : w7.cell? ⟨g6, 4, none⟩ = some (.string ⟨#[102, 102, 102, 102, 102, 102, 102, 102, 102, 102, 102, 102, 102, 102, 102, 102]⟩) := HXI.out.xblk.cell 4; replace a4 : w7.cell? ⟨w.heap.size, 4, none⟩ = some (.string key) := HXI.out.own.cell 4; replace z5 : w7.cell? ⟨g6, 5, none⟩ = some (.slice Ad ds.length cd) := HXI.out.xblk.cell 5; replace a5 : w7.cell? ⟨w.heap.size, 5, none⟩ = some (.slice Ad ds.length cd) := HXI.out.own.cell 5; replace z6 : w7.cell? ⟨g6, 6, none⟩ = some (.slice Ap ps.length cp) := HXI.out.xblk.cell 6; replace a6 : w7.cell? ⟨w.heap.size, 6, none⟩ = some (.slice Ap ps.length cp) := HXI.out.own.cell 6; replace z7 : w7.cell? ⟨g6, 7, none⟩ = some (.slice Ax cs.length capx) := HXI.out.xblk.cell 7; replace a7 : w7.cell? ⟨w.heap.size, 7, none⟩ = some (.slice Ac cs.length cc) := HXI.out.own.cell 7; replace z8 : w7.cell? ⟨g6, 8, none⟩ = some (.slice Ae es.length ce) := HXI.out.xblk.cell 8; replace a8 : w7.cell? ⟨w.heap.size, 8, none⟩ = some (.slice Ae es.length ce) := HXI.out.own.cell 8; clear hb)
              | (go_at_call 15; (with_reducible show Calls _ _ #[.agg #[.int .i64 r, .int .i64 wt, .int .i64 bk, .int .i64 cy, .string key, .slice Ad ds.length cd, .slice Ap ps.length cp, .slice Ac cs.length cc, .slice Ae es.length ce], _] _ _); refine (HCB2.out _ HXI.out).mono ?_; rintro e w7 ⟨rfl, hb⟩; replace HXI := Lib.hid (HXI.out.more hb); replace z0 : w7.cell? ⟨g6, 0, none⟩ = some (.int .i64 r) := HXI.out.xblk.cell 0; replace a0 : w7.cell? ⟨w.heap.size, 0, none⟩ = some (.int .i64 r) := HXI.out.own.cell 0; replace z1 : w7.cell? ⟨g6, 1, none⟩ = some (.int .i64 wt) := HXI.out.xblk.cell 1; replace a1 : w7.cell? ⟨w.heap.size, 1, none⟩ = some (.int .i64 wt) := HXI.out.own.cell 1; replace z2 : w7.cell? ⟨g6, 2, none⟩ = some (.int .i64 bk) := HXI.out.xblk.cell 2; replace a2 : w7.cell? ⟨w.heap.size, 2, none⟩ = some (.int .i64 bk) := HXI.out.own.cell 2; replace z3 : w7.cell? ⟨g6, 3, none⟩ = some (.int .i64 cy) := HXI.out.xblk.cell 3; replace a3 : w7.cell? ⟨w.heap.size, 3, none⟩ = some (.int .i64 cy) := HXI.out.own.cell 3; replace z4 : w7.cell? ⟨g6, 4, none⟩ = some (.string ⟨#[102, 102, 102, 102, 102, 102, 102, 102, 102, 102, 102, 102, 102, 102, 102, 102]⟩) := HXI.out.xblk.cell 4; replace a4 : w7.cell? ⟨w.heap.size, 4, none⟩ = some (.string key) := HXI.out.own.cell 4; replace z5 : w7.cell? ⟨g6, 5, none⟩ = some (.slice Ad ds.length cd) := HXI.out.xblk.cell 5; replace a5 : w7.cell? ⟨w.heap.size, 5, none⟩ = some (.slice Ad ds.length cd) := HXI.out.own.cell 5; replace z6 : w7.cell? ⟨g6, 6, none⟩ = some (.slice Ap ps.length cp) := HXI.out.xblk.cell 6; replace a6 : w7.cell? ⟨w.heap.size, 6, none⟩ = some (.slice Ap ps.length cp) := HXI.out.own.cell 6; replace z7 : w7.cell? ⟨g6, 7, none⟩ = some (.slice Ax cs.length capx) := HXI.out.xblk.cell 7; replace a7 : w7.cell? ⟨w.heap.size, 7, none⟩ = some (.slice Ac cs.length cc) := HXI.out.own.cell 7; replace z8 : w7.cell? ⟨g6, 8, none⟩ = some (.slice Ae es.length ce) := HXI.out.xblk.cell 8; replace a8 : w7.cell? ⟨w.heap.size, 8, none⟩ = some (.slice Ae es.length ce) := HXI.out.own.cell 8; clear hb)
              | (go_at_call 11; (with_reducible show Calls _ _ #[.agg #[.int .i64 r, .int .i64 wt, .int .i64 bk, .int .i64 cy, .string ⟨#[102, 102, 102, 102, 102, 102, 102, 102, 102, 102, 102, 102, 102, 102, 102, 102]⟩, .slice Ad ds.length cd, .slice Ap ps.length cp, .slice Ax cs.length capx, .slice Ae es.length ce], _] _ _); refine (HCE1.out _ HXI.out).mono ?_; rintro e w7 ⟨v, rfl, hv, hb⟩; obtain ⟨Av, cv, e, hcv, -⟩ := id hv; subst e; have HVX := Lib.hid hv; replace HXI := Lib.hid (HXI.out.more hb); replace z0 : w7.cell? ⟨g6, 0, none⟩ = some (.int .i64 r) := HXI.out.xblk.cell 0; replace a0 : w7.cell? ⟨w.heap.size, 0, none⟩ = some (.int .i64 r) := HXI.out.own.cell 0; replace z1 : w7.cell? ⟨g6, 1, none⟩ = some (.int .i64 wt) := HXI.out.xblk.cell 1; replace a1 : w7.cell? ⟨w.heap.size, 1, none⟩ = some (.int .i64 wt) := HXI.out.own.cell 1; replace z2 : w7.cell? ⟨g6, 2, none⟩ = some (.int .i64 bk) := HXI.out.xblk.cell 2; replace a2 : w7.cell? ⟨w.heap.size, 2, none⟩ = some (.int .i64 bk) := HXI.out.own.cell 2; replace z3 : w7.cell? ⟨g6, 3, none⟩ = some (.int .i64 cy) := HXI.out.xblk.cell 3; replace a3 : w7.cell? ⟨w.heap.size, 3, none⟩ = some (.int .i64 cy) := HXI.out.own.cell 3; replace z4 : w7.cell? ⟨g6, 4, none⟩ = some (.string ⟨#[102, 102, 102, 102, 102, 102, 102, 102, 102, 102, 102, 102, 102, 102, 102, 102]⟩) := HXI.out.xblk.cell 4; replace a4 : w7.cell? ⟨w.heap.size, 4, none⟩ = some (.string key) := HXI.out.own.cell 4; replace z5 : w7.cell? ⟨g6, 5, none⟩ = some (.slice Ad ds.length cd) := HXI.out.xblk.cell 5; replace a5 : w7.cell? ⟨w.heap.size, 5, none⟩ = some (.slice Ad ds.length cd) := HXI.out.own.cell 5; replace z6 : w7.cell? ⟨g6, 6, none⟩ = some (.slice Ap ps.length cp) := HXI.out.xblk.cell 6; replace a6 : w7.cell? ⟨w.heap.size, 6, none⟩ = some (.slice Ap ps.length cp) := HXI.out.own.cell 6; replace z7 : w7.cell? ⟨g6, 7, none⟩ = some (.slice Ax cs.length capx) := HXI.out.xblk.cell 7; replace a7 : w7.cell? ⟨w.heap.size, 7, none⟩ = some (.slice Ac cs.length cc) := HXI.out.own.cell 7; replace z8 : w7.cell? ⟨g6, 8, none⟩ = some (.slice Ae es.length ce) := HXI.out.xblk.cell 8; replace a8 : w7.cell? ⟨w.heap.size, 8, none⟩ = some (.slice Ae es.length ce) := HXI.out.own.cell 8; clear hb hv)
              | (go_at_call 11; (with_reducible show Calls _ _ #[.agg #[.int .i64 r, .int .i64 wt, .int .i64 bk, .int .i64 cy, .string key, .slice Ad ds.length cd, .slice Ap ps.length cp, .slice Ac cs.length cc, .slice Ae es.length ce], _] _ _); refine (HCE2.out _ HXI.out).mono ?_; rintro e w7 ⟨v, rfl, hv, hb⟩; obtain ⟨Av, cv, e, hcv, -⟩ := id hv; subst e; have HVM := Lib.hid hv; replace HVX := Lib.hid (NumsAt.below HVX.out hb); replace HXI := Lib.hid (HXI.out.more hb); replace z0 : w7.cell? ⟨g6, 0, none⟩ = some (.int .i64 r) := HXI.out.xblk.cell 0; replace a0 : w7.cell? ⟨w.heap.size, 0, none⟩ = some (.int .i64 r) := HXI.out.own.cell 0; replace z1 : w7.cell? ⟨g6, 1, none⟩ = some (.int .i64 wt) := HXI.out.xblk.cell 1; replace a1 : w7.cell? ⟨w.heap.size, 1, none⟩ = some (.int .i64 wt) := HXI.out.own.cell 1; replace z2 : w7.cell? ⟨g6, 2, none⟩ = some (.int .i64 bk) := HXI.out.xblk.cell 2; replace a2 : w7.cell? ⟨w.heap.size, 2, none⟩ = some (.int .i64 bk) := HXI.out.own.cell 2; replace z3 : w7.cell? ⟨g6, 3, none⟩ = some (.int .i64 cy) := HXI.out.xblk.cell 3; replace a3 : w7.cell? ⟨w.heap.size, 3, none⟩ = some (.int .i64 cy) := HXI.out.own.cell 3; replace z4 : w7.cell? ⟨g6, 4, none⟩ = some (.string ⟨#[102, 102, 102, 102, 102, 102, 102, 102, 102, 102, 102, 102, 102, 102, 102, 102]⟩) := HXI.out.xblk.cell 4; replace a4 : w7.cell? ⟨w.heap.size, 4, none⟩ = some (.string key) := HXI.out.own.cell 4; replace z5 : w7.cell? ⟨g6, 5, none⟩ = some (.slice Ad ds.length cd) := HXI.out.xblk.cell 5; replace a5 : w7.cell? ⟨w.heap.size, 5, none⟩ = some (.slice Ad ds.length cd) := HXI.out.own.cell 5; replace z6 : w7.cell? ⟨g6, 6, none⟩ = some (.slice Ap ps.length cp) := HXI.out.xblk.cell 6; replace a6 : w7.cell? ⟨w.heap.size, 6, none⟩ = some (.slice Ap ps.length cp) := HXI.out.own.cell 6; replace z7 : w7.cell? ⟨g6, 7, none⟩ = some (.slice Ax cs.length capx) := HXI.out.xblk.cell 7; replace a7 : w7.cell? ⟨w.heap.size, 7, none⟩ = some (.slice Ac cs.length cc) := HXI.out.own.cell 7; replace z8 : w7.cell? ⟨g6, 8, none⟩ = some (.slice Ae es.length ce) := HXI.out.xblk.cell 8; replace a8 : w7.cell? ⟨w.heap.size, 8, none⟩ = some (.slice Ae es.length ce) := HXI.out.own.cell 8; clear hb hv)
              | (go_at_call 17; refine (sameInts_any _ L L _ _ HVX.out HVM.out hLl hLl).mono ?_; rintro e w7 ⟨b9, rfl, hb9, hb⟩; obtain rfl : b9 = true := hb9.2 rfl; replace HXI := Lib.hid (HXI.out.more hb); replace z0 : w7.cell? ⟨g6, 0, none⟩ = some (.int .i64 r) := HXI.out.xblk.cell 0; replace a0 : w7.cell? ⟨w.heap.size, 0, none⟩ = some (.int .i64 r) := HXI.out.own.cell 0; replace z1 : w7.cell? ⟨g6, 1, none⟩ = some (.int .i64 wt) := HXI.out.xblk.cell 1; replace a1 : w7.cell? ⟨w.heap.size, 1, none⟩ = some (.int .i64 wt) := HXI.out.own.cell 1; replace z2 : w7.cell? ⟨g6, 2, none⟩ = some (.int .i64 bk) := HXI.out.xblk.cell 2; replace a2 : w7.cell? ⟨w.heap.size, 2, none⟩ = some (.int .i64 bk) := HXI.out.own.cell 2; replace z3 : w7.cell? ⟨g6, 3, none⟩ = some (.int .i64 cy) := HXI.out.xblk.cell 3; replace a3 : w7.cell? ⟨w.heap.size, 3, none⟩ = some (.int .i64 cy) := HXI.out.own.cell 3; replace z4 : w7.cell? ⟨g6, 4, none⟩ = some (.string ⟨#[102, 102, 102, 102, 102, 102, 102, 102, 102, 102, 102, 102, 102, 102, 102, 102]⟩) := HXI.out.xblk.cell 4; replace a4 : w7.cell? ⟨w.heap.size, 4, none⟩ = some (.string key) := HXI.out.own.cell 4; replace z5 : w7.cell? ⟨g6, 5, none⟩ = some (.slice Ad ds.length cd) := HXI.out.xblk.cell 5; replace a5 : w7.cell? ⟨w.heap.size, 5, none⟩ = some (.slice Ad ds.length cd) := HXI.out.own.cell 5; replace z6 : w7.cell? ⟨g6, 6, none⟩ = some (.slice Ap ps.length cp) := HXI.out.xblk.cell 6; replace a6 : w7.cell? ⟨w.heap.size, 6, none⟩ = some (.slice Ap ps.length cp) := HXI.out.own.cell 6; replace z7 : w7.cell? ⟨g6, 7, none⟩ = some (.slice Ax cs.length capx) := HXI.out.xblk.cell 7; replace a7 : w7.cell? ⟨w.heap.size, 7, none⟩ = some (.slice Ac cs.length cc) := HXI.out.own.cell 7; replace z8 : w7.cell? ⟨g6, 8, none⟩ = some (.slice Ae es.length ce) := HXI.out.xblk.cell 8; replace a8 : w7.cell? ⟨w.heap.size, 8, none⟩ = some (.slice Ae es.length ce) := HXI.out.own.cell 8; clear hb hb9))
          go_wp2_with fail
          go_roundw
          case rel => exact ⟨k + 1, by omega, by go_num, HXI⟩
          case measure => simp [intOf]; omega
        · have hk2 : ¬ (k : Int) < (cs.length : Int) := by omega
          have z7 : wr.cell? ⟨g6, 7, none⟩ = some (.slice Ax cs.length capx) := HXI.out.xblk.cell 7
          go_upto_region 19 with fail
          clear z7
          clear hk hk0 hlt hk2
          obtain ⟨PL, hPL⟩ : ∃ L, L = pollsF ⟨r, wt, bk, cy, key, ds, ps, cs, es⟩ := ⟨_, rfl⟩
          obtain ⟨AG, hAG⟩ : ∃ B, B = Mat.age ⟨r, wt, bk, cy, key, ds, ps, cs, es⟩ := ⟨_, rfl⟩
          obtain ⟨L, hL⟩ : ∃ L, L = onF ⟨r, wt, bk, cy, key, ds, ps, cs, es⟩ 0 := ⟨_, rfl⟩
          have hPl : PL.length ≤ 1125899906842624 := by rw [hPL]; exact Nat.le_trans (pollsUpto_len _ _) (by simp only; omega)
          have hLl : L.length ≤ 1125899906842624 := by rw [hL]; exact Nat.le_trans (on_le' (m := ⟨r, wt, bk, cy, key, ds, ps, cs, es⟩) _) (by simp only; omega)
          have HCP1 : Hid (∀ w', XIs w g6 #[.int .i64 r, .int .i64 wt, .int .i64 bk, .int .i64 cy, .string key, .slice Ad ds.length cd, .slice Ap ps.length cp, .slice Ac cs.length cc, .slice Ae es.length ce] #[.int .i64 r, .int .i64 wt, .int .i64 bk, .int .i64 cy, .string ⟨#[102, 102, 102, 102, 102, 102, 102, 102, 102, 102, 102, 102, 102, 102, 102, 102]⟩, .slice Ad ds.length cd, .slice Ap ps.length cp, .slice Ax cs.length capx, .slice Ae es.length ce] cs Ax cs' w' → Calls Try.prog 10 #[.agg #[.int .i64 r, .int .i64 wt, .int .i64 bk, .int .i64 cy, .string ⟨#[102, 102, 102, 102, 102, 102, 102, 102, 102, 102, 102, 102, 102, 102, 102, 102]⟩, .slice Ad ds.length cd, .slice Ap ps.length cp, .slice Ax cs.length capx, .slice Ae es.length ce]] w' (PlsIs PL w')) := Lib.hid (fun w' h => (polls_any w' ⟨r, wt, bk, cy, ⟨#[102, 102, 102, 102, 102, 102, 102, 102, 102, 102, 102, 102, 102, 102, 102, 102]⟩, ds, ps, cs', es⟩ _ _ _ _ (HMX.out w' h) HSX.out).mono fun e w'' ⟨v, h1, h2, _, h3⟩ => ⟨v, h1, by rw [hPL]; exact h2 HRX.out, h3⟩)
          have HCP2 : Hid (∀ w', XIs w g6 #[.int .i64 r, .int .i64 wt, .int .i64 bk, .int .i64 cy, .string key, .slice Ad ds.length cd, .slice Ap ps.length cp, .slice Ac cs.length cc, .slice Ae es.length ce] #[.int .i64 r, .int .i64 wt, .int .i64 bk, .int .i64 cy, .string ⟨#[102, 102, 102, 102, 102, 102, 102, 102, 102, 102, 102, 102, 102, 102, 102, 102]⟩, .slice Ad ds.length cd, .slice Ap ps.length cp, .slice Ax cs.length capx, .slice Ae es.length ce] cs Ax cs' w' → Calls Try.prog 10 #[.agg #[.int .i64 r, .int .i64 wt, .int .i64 bk, .int .i64 cy, .string key, .slice Ad ds.length cd, .slice Ap ps.length cp, .slice Ac cs.length cc, .slice Ae es.length ce]] w' (PlsIs PL w')) := Lib.hid (fun w' h => (polls_any w' ⟨r, wt, bk, cy, key, ds, ps, cs, es⟩ _ _ _ _ (HCM.out w' h) HM.out).mono fun e w'' ⟨v, h1, h2, _, h3⟩ => ⟨v, h1, by rw [hPL]; exact h2 HR.out, h3⟩)
          have HCA1 : Hid (∀ w', XIs w g6 #[.int .i64 r, .int .i64 wt, .int .i64 bk, .int .i64 cy, .string key, .slice Ad ds.length cd, .slice Ap ps.length cp, .slice Ac cs.length cc, .slice Ae es.length ce] #[.int .i64 r, .int .i64 wt, .int .i64 bk, .int .i64 cy, .string ⟨#[102, 102, 102, 102, 102, 102, 102, 102, 102, 102, 102, 102, 102, 102, 102, 102]⟩, .slice Ad ds.length cd, .slice Ap ps.length cp, .slice Ax cs.length capx, .slice Ae es.length ce] cs Ax cs' w' → Calls Try.prog 16 #[.agg #[.int .i64 r, .int .i64 wt, .int .i64 bk, .int .i64 cy, .string ⟨#[102, 102, 102, 102, 102, 102, 102, 102, 102, 102, 102, 102, 102, 102, 102, 102]⟩, .slice Ad ds.length cd, .slice Ap ps.length cp, .slice Ax cs.length capx, .slice Ae es.length ce]] w' fun e w'' => e = .returned (.int .i64 AG) ∧ Below w'.heap.size w' w'') := Lib.hid (fun w' h => age_any w' ⟨r, wt, bk, cy, ⟨#[102, 102, 102, 102, 102, 102, 102, 102, 102, 102, 102, 102, 102, 102, 102, 102]⟩, ds, ps, cs', es⟩ _ _ _ _ (HMX.out w' h) HSX.out AG (fun _ => by rw [hAG]; rfl) (fun h => absurd HRX.out h))
          have HCA2 : Hid (∀ w', XIs w g6 #[.int .i64 r, .int .i64 wt, .int .i64 bk, .int .i64 cy, .string key, .slice Ad ds.length cd, .slice Ap ps.length cp, .slice Ac cs.length cc, .slice Ae es.length ce] #[.int .i64 r, .int .i64 wt, .int .i64 bk, .int .i64 cy, .string ⟨#[102, 102, 102, 102, 102, 102, 102, 102, 102, 102, 102, 102, 102, 102, 102, 102]⟩, .slice Ad ds.length cd, .slice Ap ps.length cp, .slice Ax cs.length capx, .slice Ae es.length ce] cs Ax cs' w' → Calls Try.prog 16 #[.agg #[.int .i64 r, .int .i64 wt, .int .i64 bk, .int .i64 cy, .string key, .slice Ad ds.length cd, .slice Ap ps.length cp, .slice Ac cs.length cc, .slice Ae es.length ce]] w' fun e w'' => e = .returned (.int .i64 AG) ∧ Below w'.heap.size w' w'') := Lib.hid (fun w' h => age_any w' ⟨r, wt, bk, cy, key, ds, ps, cs, es⟩ _ _ _ _ (HCM.out w' h) HM.out AG (fun _ => hAG) (fun h => absurd HR.out h))
          have HCO1 : Hid (∀ w', XIs w g6 #[.int .i64 r, .int .i64 wt, .int .i64 bk, .int .i64 cy, .string key, .slice Ad ds.length cd, .slice Ap ps.length cp, .slice Ac cs.length cc, .slice Ae es.length ce] #[.int .i64 r, .int .i64 wt, .int .i64 bk, .int .i64 cy, .string ⟨#[102, 102, 102, 102, 102, 102, 102, 102, 102, 102, 102, 102, 102, 102, 102, 102]⟩, .slice Ad ds.length cd, .slice Ap ps.length cp, .slice Ax cs.length capx, .slice Ae es.length ce] cs Ax cs' w' → Calls Try.prog 13 #[.agg #[.int .i64 r, .int .i64 wt, .int .i64 bk, .int .i64 cy, .string ⟨#[102, 102, 102, 102, 102, 102, 102, 102, 102, 102, 102, 102, 102, 102, 102, 102]⟩, .slice Ad ds.length cd, .slice Ap ps.length cp, .slice Ax cs.length capx, .slice Ae es.length ce], .int .i64 0] w' (PicksIs L w')) := Lib.hid (fun w' h => by
            have h2 := on_any w' ⟨r, wt, bk, cy, ⟨#[102, 102, 102, 102, 102, 102, 102, 102, 102, 102, 102, 102, 102, 102, 102, 102]⟩, ds, ps, cs', es⟩ _ _ _ _ (HMX.out w' h) HSX.out HRX.out 0
            rw [show onF ⟨r, wt, bk, cy, ⟨#[102, 102, 102, 102, 102, 102, 102, 102, 102, 102, 102, 102, 102, 102, 102, 102]⟩, ds, ps, cs', es⟩ 0 = L by rw [hL]; rfl] at h2
            exact h2)
          have HCO2 : Hid (∀ w', XIs w g6 #[.int .i64 r, .int .i64 wt, .int .i64 bk, .int .i64 cy, .string key, .slice Ad ds.length cd, .slice Ap ps.length cp, .slice Ac cs.length cc, .slice Ae es.length ce] #[.int .i64 r, .int .i64 wt, .int .i64 bk, .int .i64 cy, .string ⟨#[102, 102, 102, 102, 102, 102, 102, 102, 102, 102, 102, 102, 102, 102, 102, 102]⟩, .slice Ad ds.length cd, .slice Ap ps.length cp, .slice Ax cs.length capx, .slice Ae es.length ce] cs Ax cs' w' → Calls Try.prog 13 #[.agg #[.int .i64 r, .int .i64 wt, .int .i64 bk, .int .i64 cy, .string key, .slice Ad ds.length cd, .slice Ap ps.length cp, .slice Ac cs.length cc, .slice Ae es.length ce], .int .i64 0] w' (PicksIs L w')) := Lib.hid (fun w' h => by
            have h2 := on_any w' ⟨r, wt, bk, cy, key, ds, ps, cs, es⟩ _ _ _ _ (HCM.out w' h) HM.out HR.out 0
            rw [← hL] at h2
            exact h2)
          clear hPL hAG hL
          replace HXI := Lib.hid HXI.out.drew
          have z0 : wr.cell? ⟨g6, 0, none⟩ = some (.int .i64 r) := HXI.out.xblk.cell 0
          have a0 : wr.cell? ⟨w.heap.size, 0, none⟩ = some (.int .i64 r) := HXI.out.own.cell 0
          have z1 : wr.cell? ⟨g6, 1, none⟩ = some (.int .i64 wt) := HXI.out.xblk.cell 1
          have a1 : wr.cell? ⟨w.heap.size, 1, none⟩ = some (.int .i64 wt) := HXI.out.own.cell 1
          have z2 : wr.cell? ⟨g6, 2, none⟩ = some (.int .i64 bk) := HXI.out.xblk.cell 2
          have a2 : wr.cell? ⟨w.heap.size, 2, none⟩ = some (.int .i64 bk) := HXI.out.own.cell 2
          have z3 : wr.cell? ⟨g6, 3, none⟩ = some (.int .i64 cy) := HXI.out.xblk.cell 3
          have a3 : wr.cell? ⟨w.heap.size, 3, none⟩ = some (.int .i64 cy) := HXI.out.own.cell 3
          have z4 : wr.cell? ⟨g6, 4, none⟩ = some (.string ⟨#[102, 102, 102, 102, 102, 102, 102, 102, 102, 102, 102, 102, 102, 102, 102, 102]⟩) := HXI.out.xblk.cell 4
          have a4 : wr.cell? ⟨w.heap.size, 4, none⟩ = some (.string key) := HXI.out.own.cell 4
          have z5 : wr.cell? ⟨g6, 5, none⟩ = some (.slice Ad ds.length cd) := HXI.out.xblk.cell 5
          have a5 : wr.cell? ⟨w.heap.size, 5, none⟩ = some (.slice Ad ds.length cd) := HXI.out.own.cell 5
          have z6 : wr.cell? ⟨g6, 6, none⟩ = some (.slice Ap ps.length cp) := HXI.out.xblk.cell 6
          have a6 : wr.cell? ⟨w.heap.size, 6, none⟩ = some (.slice Ap ps.length cp) := HXI.out.own.cell 6
          have z7 : wr.cell? ⟨g6, 7, none⟩ = some (.slice Ax cs.length capx) := HXI.out.xblk.cell 7
          have a7 : wr.cell? ⟨w.heap.size, 7, none⟩ = some (.slice Ac cs.length cc) := HXI.out.own.cell 7
          have z8 : wr.cell? ⟨g6, 8, none⟩ = some (.slice Ae es.length ce) := HXI.out.xblk.cell 8
          have a8 : wr.cell? ⟨w.heap.size, 8, none⟩ = some (.slice Ae es.length ce) := HXI.out.own.cell 8
          go_region_held3 (fun w' => w'.cell? ⟨g6, 0, none⟩ = some (.int .i64 r) ∧ w'.cell? ⟨w.heap.size, 0, none⟩ = some (.int .i64 r) ∧ w'.cell? ⟨g6, 1, none⟩ = some (.int .i64 wt) ∧ w'.cell? ⟨w.heap.size, 1, none⟩ = some (.int .i64 wt) ∧ w'.cell? ⟨g6, 2, none⟩ = some (.int .i64 bk) ∧ w'.cell? ⟨w.heap.size, 2, none⟩ = some (.int .i64 bk) ∧ w'.cell? ⟨g6, 3, none⟩ = some (.int .i64 cy) ∧ w'.cell? ⟨w.heap.size, 3, none⟩ = some (.int .i64 cy) ∧ w'.cell? ⟨g6, 4, none⟩ = some (.string ⟨#[102, 102, 102, 102, 102, 102, 102, 102, 102, 102, 102, 102, 102, 102, 102, 102]⟩) ∧ w'.cell? ⟨w.heap.size, 4, none⟩ = some (.string key) ∧ w'.cell? ⟨g6, 5, none⟩ = some (.slice Ad ds.length cd) ∧ w'.cell? ⟨w.heap.size, 5, none⟩ = some (.slice Ad ds.length cd) ∧ w'.cell? ⟨g6, 6, none⟩ = some (.slice Ap ps.length cp) ∧ w'.cell? ⟨w.heap.size, 6, none⟩ = some (.slice Ap ps.length cp) ∧ w'.cell? ⟨g6, 7, none⟩ = some (.slice Ax cs.length capx) ∧ w'.cell? ⟨w.heap.size, 7, none⟩ = some (.slice Ac cs.length cc) ∧ w'.cell? ⟨g6, 8, none⟩ = some (.slice Ae es.length ce) ∧ w'.cell? ⟨w.heap.size, 8, none⟩ = some (.slice Ae es.length ce))
            (exact ⟨z0, a0, z1, a1, z2, a2, z3, a3, z4, a4, z5, a5, z6, a6, z7, a7, z8, a8⟩)
            (first
              | (go_at_call 10; (with_reducible show Calls _ _ #[.agg #[.int .i64 r, .int .i64 wt, .int .i64 bk, .int .i64 cy, .string ⟨#[102, 102, 102, 102, 102, 102, 102, 102, 102, 102, 102, 102, 102, 102, 102, 102]⟩, .slice Ad ds.length cd, .slice Ap ps.length cp, .slice Ax cs.length capx, .slice Ae es.length ce]] _ _); refine (HCP1.out _ HXI.out).mono ?_; rintro e w7 ⟨v, rfl, hv, hb⟩; obtain ⟨Av, cv, e, hcv, -⟩ := id hv; subst e; have HVX := Lib.hid hv; replace HXI := Lib.hid (HXI.out.more hb); replace z0 : w7.cell? ⟨g6, 0, none⟩ = some (.int .i64 r) := HXI.out.xblk.cell 0; replace a0 : w7.cell? ⟨w.heap.size, 0, none⟩ = some (.int .i64 r) := HXI.out.own.cell 0; replace z1 : w7.cell? ⟨g6, 1, none⟩ = some (.int .i64 wt) := HXI.out.xblk.cell 1; replace a1 : w7.cell? ⟨w.heap.size, 1, none⟩ = some (.int .i64 wt) := HXI.out.own.cell 1; replace z2 : w7.cell? ⟨g6, 2, none⟩ = some (.int .i64 bk) := HXI.out.xblk.cell 2; replace a2 : w7.cell? ⟨w.heap.size, 2, none⟩ = some (.int .i64 bk) := HXI.out.own.cell 2; replace z3 : w7.cell? ⟨g6, 3, none⟩ = some (.int .i64 cy) := HXI.out.xblk.cell 3; replace a3 : w7.cell? ⟨w.heap.size, 3, none⟩ = some (.int .i64 cy) := HXI.out.own.cell 3; replace z4 : w7.cell? ⟨g6, 4, none⟩ = some (.string ⟨#[102, 102, 102, 102, 102, 102, 102, 102, 102, 102, 102, 102, 102, 102, 102, 102]⟩) := HXI.out.xblk.cell 4; replace a4 : w7.cell? ⟨w.heap.size, 4, none⟩ = some (.string key) := HXI.out.own.cell 4; replace z5 : w7.cell? ⟨g6, 5, none⟩ = some (.slice Ad ds.length cd) := HXI.out.xblk.cell 5; replace a5 : w7.cell? ⟨w.heap.size, 5, none⟩ = some (.slice Ad ds.length cd) := HXI.out.own.cell 5; replace z6 : w7.cell? ⟨g6, 6, none⟩ = some (.slice Ap ps.length cp) := HXI.out.xblk.cell 6; replace a6 : w7.cell? ⟨w.heap.size, 6, none⟩ = some (.slice Ap ps.length cp) := HXI.out.own.cell 6; replace z7 : w7.cell? ⟨g6, 7, none⟩ = some (.slice Ax cs.length capx) := HXI.out.xblk.cell 7; replace a7 : w7.cell? ⟨w.heap.size, 7, none⟩ = some (.slice Ac cs.length cc) := HXI.out.own.cell 7; replace z8 : w7.cell? ⟨g6, 8, none⟩ = some (.slice Ae es.length ce) := HXI.out.xblk.cell 8; replace a8 : w7.cell? ⟨w.heap.size, 8, none⟩ = some (.slice Ae es.length ce) := HXI.out.own.cell 8; clear hb hv)
              | (go_at_call 10; (with_reducible show Calls _ _ #[.agg #[.int .i64 r, .int .i64 wt, .int .i64 bk, .int .i64 cy, .string key, .slice Ad ds.length cd, .slice Ap ps.length cp, .slice Ac cs.length cc, .slice Ae es.length ce]] _ _); refine (HCP2.out _ HXI.out).mono ?_; rintro e w7 ⟨v, rfl, hv, hb⟩; obtain ⟨Av, cv, e, hcv, -⟩ := id hv; subst e; have HVM := Lib.hid hv; replace HVX := Lib.hid (LawFrame.RowsAt.below HVX.out hb); replace HXI := Lib.hid (HXI.out.more hb); replace z0 : w7.cell? ⟨g6, 0, none⟩ = some (.int .i64 r) := HXI.out.xblk.cell 0; replace a0 : w7.cell? ⟨w.heap.size, 0, none⟩ = some (.int .i64 r) := HXI.out.own.cell 0; replace z1 : w7.cell? ⟨g6, 1, none⟩ = some (.int .i64 wt) := HXI.out.xblk.cell 1; replace a1 : w7.cell? ⟨w.heap.size, 1, none⟩ = some (.int .i64 wt) := HXI.out.own.cell 1; replace z2 : w7.cell? ⟨g6, 2, none⟩ = some (.int .i64 bk) := HXI.out.xblk.cell 2; replace a2 : w7.cell? ⟨w.heap.size, 2, none⟩ = some (.int .i64 bk) := HXI.out.own.cell 2; replace z3 : w7.cell? ⟨g6, 3, none⟩ = some (.int .i64 cy) := HXI.out.xblk.cell 3; replace a3 : w7.cell? ⟨w.heap.size, 3, none⟩ = some (.int .i64 cy) := HXI.out.own.cell 3; replace z4 : w7.cell? ⟨g6, 4, none⟩ = some (.string ⟨#[102, 102, 102, 102, 102, 102, 102, 102, 102, 102, 102, 102, 102, 102, 102, 102]⟩) := HXI.out.xblk.cell 4; replace a4 : w7.cell? ⟨w.heap.size, 4, none⟩ = some (.string key) := HXI.out.own.cell 4; replace z5 : w7.cell? ⟨g6, 5, none⟩ = some (.slice Ad ds.length cd) := HXI.out.xblk.cell 5; replace a5 : w7.cell? ⟨w.heap.size, 5, none⟩ = some (.slice Ad ds.length cd) := HXI.out.own.cell 5; replace z6 : w7.cell? ⟨g6, 6, none⟩ = some (.slice Ap ps.length cp) := HXI.out.xblk.cell 6; replace a6 : w7.cell? ⟨w.heap.size, 6, none⟩ = some (.slice Ap ps.length cp) := HXI.out.own.cell 6; replace z7 : w7.cell? ⟨g6, 7, none⟩ = some (.slice Ax cs.length capx) := HXI.out.xblk.cell 7; replace a7 : w7.cell? ⟨w.heap.size, 7, none⟩ = some (.slice Ac cs.length cc) := HXI.out.own.cell 7; replace z8 : w7.cell? ⟨g6, 8, none⟩ = some (.slice Ae es.length ce) := HXI.out.xblk.cell 8; replace a8 : w7.cell? ⟨w.heap.size, 8, none⟩ = some (.slice Ae es.length ce) := HXI.out.own.cell 8; clear hb hv)
              | (go_at_call 18; refine (samePolls_any _ PL PL _ _ HVX.out HVM.out hPl hPl).mono ?_; rintro e w7 ⟨b9, rfl, hb9, hb⟩; obtain rfl : b9 = true := hb9.2 rfl; replace HXI := Lib.hid (HXI.out.more hb); replace z0 : w7.cell? ⟨g6, 0, none⟩ = some (.int .i64 r) := HXI.out.xblk.cell 0; replace a0 : w7.cell? ⟨w.heap.size, 0, none⟩ = some (.int .i64 r) := HXI.out.own.cell 0; replace z1 : w7.cell? ⟨g6, 1, none⟩ = some (.int .i64 wt) := HXI.out.xblk.cell 1; replace a1 : w7.cell? ⟨w.heap.size, 1, none⟩ = some (.int .i64 wt) := HXI.out.own.cell 1; replace z2 : w7.cell? ⟨g6, 2, none⟩ = some (.int .i64 bk) := HXI.out.xblk.cell 2; replace a2 : w7.cell? ⟨w.heap.size, 2, none⟩ = some (.int .i64 bk) := HXI.out.own.cell 2; replace z3 : w7.cell? ⟨g6, 3, none⟩ = some (.int .i64 cy) := HXI.out.xblk.cell 3; replace a3 : w7.cell? ⟨w.heap.size, 3, none⟩ = some (.int .i64 cy) := HXI.out.own.cell 3; replace z4 : w7.cell? ⟨g6, 4, none⟩ = some (.string ⟨#[102, 102, 102, 102, 102, 102, 102, 102, 102, 102, 102, 102, 102, 102, 102, 102]⟩) := HXI.out.xblk.cell 4; replace a4 : w7.cell? ⟨w.heap.size, 4, none⟩ = some (.string key) := HXI.out.own.cell 4; replace z5 : w7.cell? ⟨g6, 5, none⟩ = some (.slice Ad ds.length cd) := HXI.out.xblk.cell 5; replace a5 : w7.cell? ⟨w.heap.size, 5, none⟩ = some (.slice Ad ds.length cd) := HXI.out.own.cell 5; replace z6 : w7.cell? ⟨g6, 6, none⟩ = some (.slice Ap ps.length cp) := HXI.out.xblk.cell 6; replace a6 : w7.cell? ⟨w.heap.size, 6, none⟩ = some (.slice Ap ps.length cp) := HXI.out.own.cell 6; replace z7 : w7.cell? ⟨g6, 7, none⟩ = some (.slice Ax cs.length capx) := HXI.out.xblk.cell 7; replace a7 : w7.cell? ⟨w.heap.size, 7, none⟩ = some (.slice Ac cs.length cc) := HXI.out.own.cell 7; replace z8 : w7.cell? ⟨g6, 8, none⟩ = some (.slice Ae es.length ce) := HXI.out.xblk.cell 8; replace a8 : w7.cell? ⟨w.heap.size, 8, none⟩ = some (.slice Ae es.length ce) := HXI.out.own.cell 8; clear hb hb9 HVX HVM)
              | (go_at_call 16; (with_reducible show Calls _ _ #[.agg #[.int .i64 r, .int .i64 wt, .int .i64 bk, .int .i64 cy, .string ⟨#[102, 102, 102, 102, 102, 102, 102, 102, 102, 102, 102, 102, 102, 102, 102, 102]⟩, .slice Ad ds.length cd, .slice Ap ps.length cp, .slice Ax cs.length capx, .slice Ae es.length ce]] _ _); refine (HCA1.out _ HXI.out).mono ?_; rintro e w7 ⟨rfl, hb⟩; replace HXI := Lib.hid (HXI.out.more hb); replace z0 : w7.cell? ⟨g6, 0, none⟩ = some (.int .i64 r) := HXI.out.xblk.cell 0; replace a0 : w7.cell? ⟨w.heap.size, 0, none⟩ = some (.int .i64 r) := HXI.out.own.cell 0; replace z1 : w7.cell? ⟨g6, 1, none⟩ = some (.int .i64 wt) := HXI.out.xblk.cell 1; replace a1 : w7.cell? ⟨w.heap.size, 1, none⟩ = some (.int .i64 wt) := HXI.out.own.cell 1; replace z2 : w7.cell? ⟨g6, 2, none⟩ = some (.int .i64 bk) := HXI.out.xblk.cell 2; replace a2 : w7.cell? ⟨w.heap.size, 2, none⟩ = some (.int .i64 bk) := HXI.out.own.cell 2; replace z3 : w7.cell? ⟨g6, 3, none⟩ = some (.int .i64 cy) := HXI.out.xblk.cell 3; replace a3 : w7.cell? ⟨w.heap.size, 3, none⟩ = some (.int .i64 cy) := HXI.out.own.cell 3; replace z4 : w7.cell? ⟨g6, 4, none⟩ = some (.string ⟨#[102, 102, 102, 102, 102, 102, 102, 102, 102, 102, 102, 102, 102, 102, 102, 102]⟩) := HXI.out.xblk.cell 4; replace a4 : w7.cell? ⟨w.heap.size, 4, none⟩ = some (.string key) := HXI.out.own.cell 4; replace z5 : w7.cell? ⟨g6, 5, none⟩ = some (.slice Ad ds.length cd) := HXI.out.xblk.cell 5; replace a5 : w7.cell? ⟨w.heap.size, 5, none⟩ = some (.slice Ad ds.length cd) := HXI.out.own.cell 5; replace z6 : w7.cell? ⟨g6, 6, none⟩ = some (.slice Ap ps.length cp) := HXI.out.xblk.cell 6; replace a6 : w7.cell? ⟨w.heap.size, 6, none⟩ = some (.slice Ap ps.length cp) := HXI.out.own.cell 6; replace z7 : w7.cell? ⟨g6, 7, none⟩ = some (.slice Ax cs.length capx) := HXI.out.xblk.cell 7; replace a7 : w7.cell? ⟨w.heap.size, 7, none⟩ = some (.slice Ac cs.length cc) := HXI.out.own.cell 7; replace z8 : w7.cell? ⟨g6, 8, none⟩ = some (.slice Ae es.length ce) := HXI.out.xblk.cell 8; replace a8 : w7.cell? ⟨w.heap.size, 8, none⟩ = some (.slice Ae es.length ce) := HXI.out.own.cell 8; clear hb)
              | (go_at_call 16; (with_reducible show Calls _ _ #[.agg #[.int .i64 r, .int .i64 wt, .int .i64 bk, .int .i64 cy, .string key, .slice Ad ds.length cd, .slice Ap ps.length cp, .slice Ac cs.length cc, .slice Ae es.length ce]] _ _); refine (HCA2.out _ HXI.out).mono ?_; rintro e w7 ⟨rfl, hb⟩; replace HXI := Lib.hid (HXI.out.more hb); replace z0 : w7.cell? ⟨g6, 0, none⟩ = some (.int .i64 r) := HXI.out.xblk.cell 0; replace a0 : w7.cell? ⟨w.heap.size, 0, none⟩ = some (.int .i64 r) := HXI.out.own.cell 0; replace z1 : w7.cell? ⟨g6, 1, none⟩ = some (.int .i64 wt) := HXI.out.xblk.cell 1; replace a1 : w7.cell? ⟨w.heap.size, 1, none⟩ = some (.int .i64 wt) := HXI.out.own.cell 1; replace z2 : w7.cell? ⟨g6, 2, none⟩ = some (.int .i64 bk) := HXI.out.xblk.cell 2; replace a2 : w7.cell? ⟨w.heap.size, 2, none⟩ = some (.int .i64 bk) := HXI.out.own.cell 2; replace z3 : w7.cell? ⟨g6, 3, none⟩ = some (.int .i64 cy) := HXI.out.xblk.cell 3; replace a3 : w7.cell? ⟨w.heap.size, 3, none⟩ = some (.int .i64 cy) := HXI.out.own.cell 3; replace z4 : w7.cell? ⟨g6, 4, none⟩ = some (.string ⟨#[102, 102, 102, 102, 102, 102, 102, 102, 102, 102, 102, 102, 102, 102, 102, 102]⟩) := HXI.out.xblk.cell 4; replace a4 : w7.cell? ⟨w.heap.size, 4, none⟩ = some (.string key) := HXI.out.own.cell 4; replace z5 : w7.cell? ⟨g6, 5, none⟩ = some (.slice Ad ds.length cd) := HXI.out.xblk.cell 5; replace a5 : w7.cell? ⟨w.heap.size, 5, none⟩ = some (.slice Ad ds.length cd) := HXI.out.own.cell 5; replace z6 : w7.cell? ⟨g6, 6, none⟩ = some (.slice Ap ps.length cp) := HXI.out.xblk.cell 6; replace a6 : w7.cell? ⟨w.heap.size, 6, none⟩ = some (.slice Ap ps.length cp) := HXI.out.own.cell 6; replace z7 : w7.cell? ⟨g6, 7, none⟩ = some (.slice Ax cs.length capx) := HXI.out.xblk.cell 7; replace a7 : w7.cell? ⟨w.heap.size, 7, none⟩ = some (.slice Ac cs.length cc) := HXI.out.own.cell 7; replace z8 : w7.cell? ⟨g6, 8, none⟩ = some (.slice Ae es.length ce) := HXI.out.xblk.cell 8; replace a8 : w7.cell? ⟨w.heap.size, 8, none⟩ = some (.slice Ae es.length ce) := HXI.out.own.cell 8; clear hb)
              | (go_at_call 13; (with_reducible show Calls _ _ #[.agg #[.int .i64 r, .int .i64 wt, .int .i64 bk, .int .i64 cy, .string ⟨#[102, 102, 102, 102, 102, 102, 102, 102, 102, 102, 102, 102, 102, 102, 102, 102]⟩, .slice Ad ds.length cd, .slice Ap ps.length cp, .slice Ax cs.length capx, .slice Ae es.length ce], _] _ _); refine (HCO1.out _ HXI.out).mono ?_; rintro e w7 ⟨v, rfl, hv, hb⟩; obtain ⟨Av, cv, e, hcv, -⟩ := id hv; subst e; have HVX := Lib.hid hv; replace HXI := Lib.hid (HXI.out.more hb); replace z0 : w7.cell? ⟨g6, 0, none⟩ = some (.int .i64 r) := HXI.out.xblk.cell 0; replace a0 : w7.cell? ⟨w.heap.size, 0, none⟩ = some (.int .i64 r) := HXI.out.own.cell 0; replace z1 : w7.cell? ⟨g6, 1, none⟩ = some (.int .i64 wt) := HXI.out.xblk.cell 1; replace a1 : w7.cell? ⟨w.heap.size, 1, none⟩ = some (.int .i64 wt) := HXI.out.own.cell 1; replace z2 : w7.cell? ⟨g6, 2, none⟩ = some (.int .i64 bk) := HXI.out.xblk.cell 2; replace a2 : w7.cell? ⟨w.heap.size, 2, none⟩ = some (.int .i64 bk) := HXI.out.own.cell 2; replace z3 : w7.cell? ⟨g6, 3, none⟩ = some (.int .i64 cy) := HXI.out.xblk.cell 3; replace a3 : w7.cell? ⟨w.heap.size, 3, none⟩ = some (.int .i64 cy) := HXI.out.own.cell 3; replace z4 : w7.cell? ⟨g6, 4, none⟩ = some (.string ⟨#[102, 102, 102, 102, 102, 102, 102, 102, 102, 102, 102, 102, 102, 102, 102, 102]⟩) := HXI.out.xblk.cell 4; replace a4 : w7.cell? ⟨w.heap.size, 4, none⟩ = some (.string key) := HXI.out.own.cell 4; replace z5 : w7.cell? ⟨g6, 5, none⟩ = some (.slice Ad ds.length cd) := HXI.out.xblk.cell 5; replace a5 : w7.cell? ⟨w.heap.size, 5, none⟩ = some (.slice Ad ds.length cd) := HXI.out.own.cell 5; replace z6 : w7.cell? ⟨g6, 6, none⟩ = some (.slice Ap ps.length cp) := HXI.out.xblk.cell 6; replace a6 : w7.cell? ⟨w.heap.size, 6, none⟩ = some (.slice Ap ps.length cp) := HXI.out.own.cell 6; replace z7 : w7.cell? ⟨g6, 7, none⟩ = some (.slice Ax cs.length capx) := HXI.out.xblk.cell 7; replace a7 : w7.cell? ⟨w.heap.size, 7, none⟩ = some (.slice Ac cs.length cc) := HXI.out.own.cell 7; replace z8 : w7.cell? ⟨g6, 8, none⟩ = some (.slice Ae es.length ce) := HXI.out.xblk.cell 8; replace a8 : w7.cell? ⟨w.heap.size, 8, none⟩ = some (.slice Ae es.length ce) := HXI.out.own.cell 8; clear hb hv)
              | (go_at_call 13; (with_reducible show Calls _ _ #[.agg #[.int .i64 r, .int .i64 wt, .int .i64 bk, .int .i64 cy, .string key, .slice Ad ds.length cd, .slice Ap ps.length cp, .slice Ac cs.length cc, .slice Ae es.length ce], _] _ _); refine (HCO2.out _ HXI.out).mono ?_; rintro e w7 ⟨v, rfl, hv, hb⟩; obtain ⟨Av, cv, e, hcv, -⟩ := id hv; subst e; have HVM := Lib.hid hv; replace HVX := Lib.hid (NumsAt.below HVX.out hb); replace HXI := Lib.hid (HXI.out.more hb); replace z0 : w7.cell? ⟨g6, 0, none⟩ = some (.int .i64 r) := HXI.out.xblk.cell 0; replace a0 : w7.cell? ⟨w.heap.size, 0, none⟩ = some (.int .i64 r) := HXI.out.own.cell 0; replace z1 : w7.cell? ⟨g6, 1, none⟩ = some (.int .i64 wt) := HXI.out.xblk.cell 1; replace a1 : w7.cell? ⟨w.heap.size, 1, none⟩ = some (.int .i64 wt) := HXI.out.own.cell 1; replace z2 : w7.cell? ⟨g6, 2, none⟩ = some (.int .i64 bk) := HXI.out.xblk.cell 2; replace a2 : w7.cell? ⟨w.heap.size, 2, none⟩ = some (.int .i64 bk) := HXI.out.own.cell 2; replace z3 : w7.cell? ⟨g6, 3, none⟩ = some (.int .i64 cy) := HXI.out.xblk.cell 3; replace a3 : w7.cell? ⟨w.heap.size, 3, none⟩ = some (.int .i64 cy) := HXI.out.own.cell 3; replace z4 : w7.cell? ⟨g6, 4, none⟩ = some (.string ⟨#[102, 102, 102, 102, 102, 102, 102, 102, 102, 102, 102, 102, 102, 102, 102, 102]⟩) := HXI.out.xblk.cell 4; replace a4 : w7.cell? ⟨w.heap.size, 4, none⟩ = some (.string key) := HXI.out.own.cell 4; replace z5 : w7.cell? ⟨g6, 5, none⟩ = some (.slice Ad ds.length cd) := HXI.out.xblk.cell 5; replace a5 : w7.cell? ⟨w.heap.size, 5, none⟩ = some (.slice Ad ds.length cd) := HXI.out.own.cell 5; replace z6 : w7.cell? ⟨g6, 6, none⟩ = some (.slice Ap ps.length cp) := HXI.out.xblk.cell 6; replace a6 : w7.cell? ⟨w.heap.size, 6, none⟩ = some (.slice Ap ps.length cp) := HXI.out.own.cell 6; replace z7 : w7.cell? ⟨g6, 7, none⟩ = some (.slice Ax cs.length capx) := HXI.out.xblk.cell 7; replace a7 : w7.cell? ⟨w.heap.size, 7, none⟩ = some (.slice Ac cs.length cc) := HXI.out.own.cell 7; replace z8 : w7.cell? ⟨g6, 8, none⟩ = some (.slice Ae es.length ce) := HXI.out.xblk.cell 8; replace a8 : w7.cell? ⟨w.heap.size, 8, none⟩ = some (.slice Ae es.length ce) := HXI.out.own.cell 8; clear hb hv)
              | (go_at_call 17; refine (sameInts_any _ L L _ _ HVX.out HVM.out hLl hLl).mono ?_; rintro e w7 ⟨b9, rfl, hb9, hb⟩; obtain rfl : b9 = true := hb9.2 rfl; replace HXI := Lib.hid (HXI.out.more hb); replace z0 : w7.cell? ⟨g6, 0, none⟩ = some (.int .i64 r) := HXI.out.xblk.cell 0; replace a0 : w7.cell? ⟨w.heap.size, 0, none⟩ = some (.int .i64 r) := HXI.out.own.cell 0; replace z1 : w7.cell? ⟨g6, 1, none⟩ = some (.int .i64 wt) := HXI.out.xblk.cell 1; replace a1 : w7.cell? ⟨w.heap.size, 1, none⟩ = some (.int .i64 wt) := HXI.out.own.cell 1; replace z2 : w7.cell? ⟨g6, 2, none⟩ = some (.int .i64 bk) := HXI.out.xblk.cell 2; replace a2 : w7.cell? ⟨w.heap.size, 2, none⟩ = some (.int .i64 bk) := HXI.out.own.cell 2; replace z3 : w7.cell? ⟨g6, 3, none⟩ = some (.int .i64 cy) := HXI.out.xblk.cell 3; replace a3 : w7.cell? ⟨w.heap.size, 3, none⟩ = some (.int .i64 cy) := HXI.out.own.cell 3; replace z4 : w7.cell? ⟨g6, 4, none⟩ = some (.string ⟨#[102, 102, 102, 102, 102, 102, 102, 102, 102, 102, 102, 102, 102, 102, 102, 102]⟩) := HXI.out.xblk.cell 4; replace a4 : w7.cell? ⟨w.heap.size, 4, none⟩ = some (.string key) := HXI.out.own.cell 4; replace z5 : w7.cell? ⟨g6, 5, none⟩ = some (.slice Ad ds.length cd) := HXI.out.xblk.cell 5; replace a5 : w7.cell? ⟨w.heap.size, 5, none⟩ = some (.slice Ad ds.length cd) := HXI.out.own.cell 5; replace z6 : w7.cell? ⟨g6, 6, none⟩ = some (.slice Ap ps.length cp) := HXI.out.xblk.cell 6; replace a6 : w7.cell? ⟨w.heap.size, 6, none⟩ = some (.slice Ap ps.length cp) := HXI.out.own.cell 6; replace z7 : w7.cell? ⟨g6, 7, none⟩ = some (.slice Ax cs.length capx) := HXI.out.xblk.cell 7; replace a7 : w7.cell? ⟨w.heap.size, 7, none⟩ = some (.slice Ac cs.length cc) := HXI.out.own.cell 7; replace z8 : w7.cell? ⟨g6, 8, none⟩ = some (.slice Ae es.length ce) := HXI.out.xblk.cell 8; replace a8 : w7.cell? ⟨w.heap.size, 8, none⟩ = some (.slice Ae es.length ce) := HXI.out.own.cell 8; clear hb hb9))
          go_wp2_with fail
          go_ret
          exact ⟨rfl, HXI.out.below⟩
end Go.Proofs.Ytbpenoelmangkaa
