/-
  The arguments of this seat's laws, read as lists; whether it is too much.
-/
import Derived.Test.YtcaobjmngdlklaaLatchHead
import Derived.Deep.CondSized
namespace Go.Proofs.Ytcaobjmngdlklaa.LawFrame
open Go.ChangeShapes Go.WideShapes Go.ChangeAt Go.RowKit Go.Deep
section
variable {H : Type} {enc : TypeId × Value → H} {P : Program} {w : World} {base : Nat}
/-- a slice of structs of one-cell fields, in a cell -/
theorem open_rows_at {α : Type} (f : α → List Value) {t e : TypeId} {fs : Array Field} {u : Value} {n : Nat} {y : DataW H × List MemPlace} (ht : P.underlying t = some (.slice e)) (he : P.underlying e = some (.struct fs))
    (hone : oneCellFields P fs = true) (hC : P.cellsOf e = fs.size) (hs : 0 < fs.size)
    (dec : ∀ vs : Nat → Value, (∀ (j : Nat) (fd : Field), fs[j]? = some fd → ∃ n y, DataW.trod enc P w 0 (fun _ => true) true n fd.type [vs j] = some y) → ∃ x : α, ∀ j u, (f x)[j]? = some u → j < fs.size ∧ u = vs j)
    (h : DataW.trod enc P w 0 (fun _ => true) true n t [u] = some y) : ∃ l : List α, RowsAt w fs.size f l u ∧ l.length ≤ maxLen := by
  rcases open_slice_fields ht he hone hC h with ⟨hcs, hx⟩ | ⟨a, len', cap', m, D, Pl, hcs, _, hl, hm, hmm, hx, hi⟩
  · simp only [List.cons.injEq, and_true] at hcs
    subst hcs
    exact ⟨[], RowsAt.nil w _ f, by simp⟩
  · simp only [List.cons.injEq, and_true] at hcs
    subst hcs
    simp only [if_true] at hmm
    subst hmm
    obtain ⟨l, hln, hp'⟩ := list_of len' (fun i (x : α) => ∀ d u, (f x)[d]? = some u → w.cell? (a.add (i * fs.size + d)) = some u) (fun i hi' => by
      obtain ⟨ys, n, _, _, hyl, hfld⟩ := hi i (by omega)
      have hex : ∀ j : Nat, ∃ u : Value, ∀ fd, fs[j]? = some fd → w.cell? (a.add (i * fs.size + j)) = some u ∧ ∃ n y, DataW.trod enc P w 0 (fun _ => true) true n fd.type [u] = some y := by
        intro j
        cases hj : fs[j]? with
        | none => exact ⟨undef, fun fd h => by cases h⟩
        | some fd =>
          obtain ⟨u, y, h1, _, h3⟩ := hfld j fd hj
          exact ⟨u, fun fd' h => by injection h with h; subst h; exact ⟨h1, _, _, h3⟩⟩
      obtain ⟨vs, hvs⟩ := Classical.axiomOfChoice hex
      obtain ⟨x, hx⟩ := dec vs (fun j fd hj => (hvs j fd hj).2)
      refine ⟨x, fun d u hu => ?_⟩
      obtain ⟨hd, rfl⟩ := hx d u hu
      exact (hvs d fs[d] (Array.getElem?_eq_getElem hd)).1)
    subst hln
    refine ⟨l, ⟨some a, _, rfl, by omega, fun hne => ?_⟩, by omega⟩
    have h0 : 0 < l.length := List.length_pos_iff.2 hne
    obtain ⟨b, off, rfl⟩ : ∃ b off, a = ⟨b, off, none⟩ := by
      obtain ⟨ys, n, _, _, _, hfld⟩ := hi 0 (by omega)
      obtain ⟨u, _, h1, _⟩ := hfld 0 fs[0] (Array.getElem?_eq_getElem hs)
      exact add_plain' (by simpa using h1)
    refine ⟨b, off, rfl, ?_, fun i x hx' d u hu => ?_⟩
    · obtain ⟨ys, n, _, _, _, hfld⟩ := hi 0 (by omega)
      obtain ⟨u, _, h1, _⟩ := hfld 0 fs[0] (Array.getElem?_eq_getElem hs)
      have := cell_lt h1
      simpa [add_plain] using this
    · have := hp' i x hx' d u hu
      simpa [add_plain, Nat.add_assoc] using this
theorem rows_map {α β : Type} {w : World} {m : Nat} {f : β → List Value} {g : α → β} {l : List α} {v : Value} (h : RowsAt w m (fun x => f (g x)) l v) : RowsAt w m f (l.map g) v := by
  obtain ⟨A, c, rfl, hc, hx⟩ := h
  refine ⟨A, c, by simp, by simpa using hc, fun hne => ?_⟩
  obtain ⟨b, off, rfl, hb, hx⟩ := hx (by simpa using hne)
  refine ⟨b, off, rfl, hb, fun i x hi d u hu => ?_⟩
  rw [List.getElem?_map, Option.map_eq_some_iff] at hi
  obtain ⟨y, hy, rfl⟩ := hi
  exact hx i y hy d u hu
end
end Go.Proofs.Ytcaobjmngdlklaa.LawFrame
namespace Go.Proofs.Ytcaobjmngdlklaa
open Go.RowKit Go.ChangeShapes Go.WideShapes
theorem own : ownKnob Try.prog.godebug = none := by kernel_rfl
/-- a call of the law's -/
structure LOp where
  what : Int
  i : Int
  now : Int
  vL : Value
  L : List Lat
def LOp.cells (o : LOp) : List Value := [.int .i64 o.what, .int .i64 o.i, .int .i64 o.now, o.vL]
def OpsAt (w : World) (l : List LOp) (v : Value) : Prop := LawFrame.RowsAt w 4 LOp.cells l v
section
variable {H : Type} {enc : TypeId × Value → H} {w : World} {base : Nat} {v : Value} {d : DataW H} {p : List MemPlace}
theorem open_lats_at {u : Value} {n : Nat} {y : DataW H × List MemPlace} (h : DataW.trod enc Try.prog w 0 (fun _ => true) true n 30 [u] = some y) : ∃ l : List Lat, LatsAt w l u ∧ l.length ≤ maxLen :=
  LawFrame.open_rows_at latC Try.underlying30 Try.underlying37 (by kernel_rfl) (by kernel_rfl) (by decide) (fun vs hd => by
    obtain ⟨n0, y0, t0⟩ := hd 0 _ rfl
    obtain ⟨n1, y1, t1⟩ := hd 1 _ rfl
    obtain ⟨n2, y2, t2⟩ := hd 2 _ rfl
    obtain ⟨b0, hb0, _⟩ := DataW.trod_bool Try.underlying4 t0
    obtain ⟨b1, hb1, _⟩ := DataW.trod_int Try.underlying2 t1
    obtain ⟨b2, hb2, _⟩ := DataW.trod_bool Try.underlying4 t2
    simp only [List.cons.injEq, and_true] at hb0 hb1 hb2
    refine ⟨⟨b0, b1, b2⟩, fun j u hu => ?_⟩
    match j, hu with
    | 0, hu => exact ⟨by decide, by rw [hb0]; simpa [latC] using hu.symm⟩
    | 1, hu => exact ⟨by decide, by rw [hb1]; simpa [latC] using hu.symm⟩
    | 2, hu => exact ⟨by decide, by rw [hb2]; simpa [latC] using hu.symm⟩) h
theorem open_lats (hv : Value.okWide Try.prog w .any base 30 v) (h : DataW.Trod enc Try.prog w 0 (fun _ => true) true 30 v d p) : ∃ l : List Lat, LatsAt w l v ∧ l.length ≤ maxLen := by
  obtain ⟨a0, len, cap, rfl⟩ := okWide_slice Try.underlying30 hv
  obtain ⟨fuel, hf⟩ := h
  exact open_lats_at hf
theorem open_groups (hv : Value.okWide Try.prog w .any base 22 v) (h : DataW.Trod enc Try.prog w 0 (fun _ => true) true 22 v d p) : ∃ gs : List Int, NumsAt w gs v ∧ (∀ x ∈ gs, Fit64 x) ∧ gs.length ≤ maxLen := by
  obtain ⟨l, hl, hn⟩ := LawFrame.open_nums Try.underlying22 Try.underlying3 (by kernel_rfl) hv h
  refine ⟨l.map (·.1), LawFrame.rows_map hl, fun x hx => ?_, by simpa using hn⟩
  obtain ⟨y, -, rfl⟩ := List.mem_map.1 hx
  exact bounds_i64 y.2
theorem open_ops (hv : Value.okWide Try.prog w .any base 23 v) (h : DataW.Trod enc Try.prog w 0 (fun _ => true) true 23 v d p) : ∃ l : List LOp, OpsAt w l v ∧ (∀ o ∈ l, LatsAt w o.L o.vL) ∧ l.length ≤ maxLen := by
  obtain ⟨l, hl, hn⟩ := LawFrame.open_rows (fun x : { o : LOp // LatsAt w o.L o.vL } => x.1.cells) Try.underlying23 Try.underlying32 (by kernel_rfl) (by kernel_rfl) (by decide) (fun vs hd => by
    obtain ⟨n0, y0, t0⟩ := hd 0 _ rfl
    obtain ⟨n1, y1, t1⟩ := hd 1 _ rfl
    obtain ⟨n2, y2, t2⟩ := hd 2 _ rfl
    obtain ⟨n3, y3, t3⟩ := hd 3 _ rfl
    obtain ⟨b0, hb0, _⟩ := DataW.trod_int Try.underlying3 t0
    obtain ⟨b1, hb1, _⟩ := DataW.trod_int Try.underlying3 t1
    obtain ⟨b2, hb2, _⟩ := DataW.trod_int Try.underlying2 t2
    obtain ⟨L, hL, _⟩ := open_lats_at t3
    simp only [List.cons.injEq, and_true] at hb0 hb1 hb2
    refine ⟨⟨⟨b0, b1, b2, vs 3, L⟩, hL⟩, fun j u hu => ?_⟩
    match j, hu with
    | 0, hu => exact ⟨by decide, by rw [hb0]; exact (Option.some.inj hu).symm⟩
    | 1, hu => exact ⟨by decide, by rw [hb1]; exact (Option.some.inj hu).symm⟩
    | 2, hu => exact ⟨by decide, by rw [hb2]; exact (Option.some.inj hu).symm⟩
    | 3, hu => exact ⟨by decide, (Option.some.inj hu).symm⟩) hv h
  refine ⟨l.map (·.1), LawFrame.rows_map hl, fun o ho => ?_, by simpa using hn⟩
  obtain ⟨x, -, rfl⟩ := List.mem_map.1 ho
  exact x.2
end
def GreatIs (ng nl : Nat) (w : World) (e : Ending) (w' : World) : Prop := (∃ b, e = .returned (.bool b) ∧ (b = false → nl ≤ 200 ∧ ng ≤ 60)) ∧ w = w'
set_option maxHeartbeats 1000000 in
set_option maxRecDepth 100000 in
theorem great_any (A : Option Addr) (ng c : Nat) (l : List LOp) (v2 : Value) (w : World) (hng : ng ≤ 9223372036854775807) (hl : OpsAt w l v2) (hp : ∀ o ∈ l, LatsAt w o.L o.vL) (hll : l.length ≤ 9223372036854775807) :
    Calls Try.prog 9 #[.slice A ng c, v2] w (GreatIs ng l.length w) := by
  have hv := hl
  obtain ⟨A2, c2, rfl, hc2, -⟩ := hv
  have HL := Lib.hid hl
  have HP := Lib.hid hp
  clear hl hp
  go_enter Try.func9, Try.ntmps9
  go_wp2_with fail
  go_loop [5, 6] (fun n i => ∃ (k : Nat) (m : Nat), k ≤ l.length ∧ i = .int .i64 k ∧ n = .int .i64 m ∧ m ≤ 9223372036854775807) (fun _ i => l.length - (intOf i).toNat)
  case atStart => exact ⟨0, ng, Nat.zero_le _, rfl, rfl, hng⟩
  case round =>
    obtain ⟨k, m, hk, rfl, rfl, hm⟩ := hrel
    by_cases hlt : k < l.length
    · obtain ⟨o, hx⟩ : ∃ o, l[k]? = some o := ⟨_, List.getElem?_eq_getElem hlt⟩
      obtain ⟨bb, off', c', hv, hbl, hcell⟩ := HL.out.at_ hx
      have e3 := hcell 3 _ rfl
      obtain ⟨AL, cL, hvL, hcL, -⟩ := HP.out o (List.mem_of_getElem? hx)
      rw [hvL] at e3
      injection hv with hA _ _
      subst hA
      clear hcell hx hvL
      by_cases hm9 : m < 9000
      · generalize o.L.length = q at *
        by_cases hq : q < 9000
        · go_wp2_with fail
          all_goals
            go_round
            case rel => exact ⟨k + 1, m + q, by omega, by go_num, by go_num, by omega⟩
            case measure => simp [intOf]; omega
        · go_wp2_with fail
          all_goals
            go_round
            case rel => exact ⟨k + 1, m + 9000, by omega, by go_num, by go_num, by omega⟩
            case measure => simp [intOf]; omega
      · go_wp2_with fail
        go_ret
        exact ⟨⟨true, rfl, fun h => by cases h⟩, rfl⟩
    · by_cases hm9 : m < 9000
      · by_cases h2 : 200 < l.length
        · go_wp2_with fail
          go_ret
          exact ⟨⟨true, rfl, fun h => by cases h⟩, rfl⟩
        · by_cases h6 : 60 < ng
          · go_wp2_with fail
            go_ret
            exact ⟨⟨_, rfl, fun h => by simp at h; omega⟩, rfl⟩
          · go_wp2_with fail
            go_ret
            exact ⟨⟨_, rfl, fun _ => ⟨by omega, by omega⟩⟩, rfl⟩
      · go_wp2_with fail
        go_ret
        exact ⟨⟨true, rfl, fun h => by cases h⟩, rfl⟩
end Go.Proofs.Ytcaobjmngdlklaa
