/-
  THE LAW LexBack, walked.
-/
import Derived.Test.YtpoihpehdlogbaaDoorLexGreat
namespace Go.Proofs.YtpoihpehdlogbaaDoor
open Go.RowKit
/-- a line of words -/
def LFine (x : Ln) : Prop := 1 ≤ x.ws.length ∧ x.ws.length ≤ 14 ∧ ∀ u ∈ x.ws, wordB u = true
theorem lfine_bs {x : Ln} (h : LFine x) : fineL x.bs := by
  obtain ⟨h1, h2, h3⟩ := h
  refine ⟨fun e => ?_, by unfold Ln.bs; rw [List.length_map]; exact h2, fun w hw => ?_⟩
  · have := congrArg List.length e
    unfold Ln.bs at this
    rw [List.length_map, List.length_nil] at this
    omega
  · unfold Ln.bs at hw
    obtain ⟨u, hu, rfl⟩ := List.mem_map.1 hw
    exact word_fine (h3 u hu)
theorem mem_wsum {ws : List ByteArray} {u : ByteArray} (hu : u ∈ ws) (h : wsum ws < 9000) : u.size ≤ 9000 := by
  unfold wsum at h
  induction ws with
  | nil => cases hu
  | cons s ws ih =>
    simp only [List.map_cons, List.sum_cons] at h
    rcases List.mem_cons.1 hu with rfl | hu
    · omega
    · exact ih hu (by omega)
theorem mem_lsum {xs : List Ln} {x : Ln} (hx : x ∈ xs) : x.ws.length + wsum x.ws ≤ lsum xs := by
  unfold lsum
  induction xs with
  | nil => cases hx
  | cons y xs ih =>
    simp only [List.map_cons, List.sum_cons]
    rcases List.mem_cons.1 hx with rfl | hx
    · omega
    · have := ih hx; omega
theorem Small.word {xs : List Ln} (h : Small xs) {x : Ln} (hx : x ∈ xs) {u : ByteArray} (hu : u ∈ x.ws) : u.size ≤ 9000 := by
  unfold Small at h
  have := mem_lsum hx
  exact mem_wsum hu (by omega)
theorem fine_len : ∀ (ls : List (List (List UInt8))), (∀ ws ∈ ls, fineL ws) → (printL ls).length ≤ 239 * ls.length
  | [], _ => by simp [printL]
  | ws :: ls, h => by
    have h1 := fine_len ls (fun v hv => h v (by simp [hv]))
    have h2 := joinW_small ws
    obtain ⟨-, h3, h4⟩ := h ws (by simp)
    have key : ∀ (vs : List (List UInt8)), (∀ w ∈ vs, fineW w) → (vs.map List.length).sum ≤ 16 * vs.length := by
      intro vs
      induction vs with
      | nil => simp
      | cons v vs ih =>
        intro hv
        have a := (hv v (by simp)).2.1
        have b := ih (fun w hw => hv w (by simp [hw]))
        simp only [List.map_cons, List.sum_cons, List.length_cons]
        omega
    have h5 := key ws h4
    unfold printL at *
    rw [List.flatMap_cons, List.length_append, List.length_append, List.length_singleton, List.length_cons]
    omega
theorem bs_number {zs : List Ln} {n : Nat} {ls : List (List (List UInt8))} (h : zs.map Ln.told = toldL (number n ls)) : zs.map Ln.bs = ls := by
  rw [bs_told h]
  unfold toldL
  rw [List.map_map]
  have e : ((fun p : Int × List ByteArray => p.2.map (fun s => s.data.toList)) ∘ toldOf) = (fun x : Nat × List (List UInt8) => x.2) := by
    funext x
    unfold toldOf
    simp only [Function.comp_apply, List.map_map]
    have e : ((fun s : ByteArray => s.data.toList) ∘ toB) = id := by funext l; exact toB_list l
    rw [e, List.map_id]
  rw [e]
  exact number_snd n ls
theorem bs_inj {x y : Ln} (h : x.bs = y.bs) : x.ws = y.ws := by
  unfold Ln.bs at h
  have e := congrArg (List.map toB) h
  rw [List.map_map, List.map_map] at e
  have f : (toB ∘ fun s : ByteArray => s.data.toList) = id := by funext s; exact toB_of s
  rw [f, List.map_id, List.map_id] at e
  exact e
/-- lines of the same words, one by one -/
theorem same_at {zs xs : List Ln} (h : zs.map Ln.bs = xs.map Ln.bs) {k : Nat} {x z : Ln} (hx : xs[k]? = some x) (hz : zs[k]? = some z) : z.ws = x.ws := by
  have e := congrArg (·[k]?) h
  simp only [List.getElem?_map, hx, hz, Option.map_some, Option.some.injEq] at e
  exact bs_inj e
theorem number_at {zs : List Ln} {ls : List (List (List UInt8))} (h : zs.map Ln.told = toldL (number 1 ls)) {k : Nat} {z : Ln} (hz : zs[k]? = some z) : z.no = (k : Int) + 1 := by
  obtain ⟨y, hy, h1, -⟩ := told_get h hz
  rw [number_get, Option.map_eq_some_iff] at hy
  obtain ⟨u, -, rfl⟩ := hy
  rw [h1]
  simp only
  omega
theorem size_list (P : List UInt8) : (toB P).data.toList = P := toB_list P
/-- what Lines hands back of what was printed -/
theorem lines_printed (w : World) (ls : List (List (List UInt8))) (hf : ∀ ws ∈ ls, fineL ws) (ht : Tab w) (hl : (printL ls).length ≤ 4096) :
    Calls Tryd.prog 11 #[.string (toB (printL ls))] w fun e w' => ∃ (zs : List Ln) (A : Option Addr) (c : Nat), e = .returned (.tuple #[.slice A zs.length c, .int .i64 0, .int .i64 0]) ∧ zs.map Ln.told = toldL (number 1 ls) ∧ LsAt w' zs (.slice A zs.length c) ∧ Below w.heap.size w w' := by
  obtain ⟨h1, h2⟩ := text_print hf
  rw [if_neg (by omega)] at h1
  have h := lines_ok w (toB (printL ls)) (by rw [toB_size]; omega) ht (by rw [toB_list]; exact h1)
  unfold LinesOk at h
  rw [toB_list, h2] at h
  exact h
theorem lines_too_long (w : World) (ls : List (List (List UInt8))) (hf : ∀ ws ∈ ls, fineL ws) (ht : Tab w) (hl : 4096 < (printL ls).length) (hz : (printL ls).length ≤ 1000000) :
    Calls Tryd.prog 11 #[.string (toB (printL ls))] w fun e w' => e = .returned (.tuple #[.slice none 0 0, .int .i64 2, .int .i64 0]) ∧ Below w.heap.size w w' := by
  obtain ⟨h1, h2⟩ := text_print hf
  rw [if_pos hl] at h1
  exact lines_bad w (toB (printL ls)) (by rw [toB_size]; omega) ht (by rw [toB_list]; exact h1)
set_option maxHeartbeats 4000000 in
set_option maxRecDepth 100000 in
theorem lexBack_any (w : World) (s : ByteArray) (xs : List Ln) (v : Value) (hs : s.size ≤ 1125899906842624) (hxs : LsAt w xs v) (hxn : xs.length ≤ 1125899906842624) (htab : Tab w) :
    Calls Tryd.prog 3 #[.string s, v] w fun e w' => e = .returned (.bool true) ∧ Below w.heap.size w w' := by
  have HT := Lib.hid htab
  obtain ⟨A, c, e, hc, -⟩ := id hxs.1
  subst e
  have HX := Lib.hid hxs
  clear htab hxs
  go_enter Tryd.func3, Tryd.ntmps3
  by_cases hbig : (5000 : Int) < (s.size : Int)
  · go_wp2_with (go_at_call 7; refine (head_any w HT.out).mono ?_; rintro e w1 ⟨rfl, h1⟩; have H1 := Lib.hid h1; clear h1)
    go_ret
    exact ⟨rfl, H1.out⟩
  have HSZ := Lib.hid (show s.size ≤ 5000 by omega)
  go_wp2_with (go_at_call 7; refine (head_any w HT.out).mono ?_; rintro e w1 ⟨rfl, h1⟩; have H1 := Lib.hid h1; clear h1)
  refine (great_any w1 xs _ (HX.out.below H1.out) hxn).mono ?_
  rintro e w2 ⟨b, rfl, hsm, m, rfl⟩
  have H2 := Lib.hid (below_drewn H1.out m)
  have HSM := Lib.hid hsm
  clear hsm H1
  generalize w1.drewN m = w2 at *
  cases b with
  | true =>
    go_wp2_with fail
    go_ret
    exact ⟨rfl, H2.out⟩
  | false =>
  have HS := Lib.hid (HSM.out rfl)
  have HX2 := Lib.hid (HX.out.below H2.out)
  clear HSM
  go_wp2_with fail
  go_loopw [6, 7] (fun f i wr => ∃ (k : Nat) (F : Bool), k ≤ xs.length ∧ i = .int .i64 k ∧ f = .bool F ∧ Hid (F = true → Upto (fun _ x => LFine x) xs k) ∧ Hid (w2 = wr)) (fun _ i _ => xs.length - (intOf i).toNat)
  case atStart => exact ⟨0, true, Nat.zero_le _, rfl, rfl, Lib.hid (fun _ => upto_zero _ _), Lib.hid (by trivial)⟩
  case round =>
    obtain ⟨k, F, hk, rfl, rfl, HF, HW⟩ := hrel
    obtain rfl := HW.out
    by_cases hlt : k < xs.length
    · have hk1 : (k : Int) < (xs.length : Int) := by omega
      have hk0 : (0 : Int) ≤ (k : Int) := by omega
      obtain ⟨x, hx⟩ : ∃ x, xs[k]? = some x := ⟨_, List.getElem?_eq_getElem hlt⟩
      obtain ⟨g, off, hA, -, hcell⟩ := row_at HX2.out.1 hx
      subst hA
      have y1 := hcell 1 _ rfl
      clear hcell
      have HX1 := Lib.hid hx
      have HWS := Lib.hid (HX2.out.2 x (List.mem_of_getElem? hx))
      obtain ⟨xn, xv, xw⟩ := x
      obtain ⟨B, d, e, hd, -⟩ := id HWS.out.1
      simp only at e y1
      subst e
      have hwl : xw.length ≤ 1125899906842624 := HWS.out.2
      obtain ⟨n0, hn0⟩ : ∃ n0, n0 = xw.length := ⟨_, rfl⟩
      have HN0 := Lib.hid hn0
      rw [← hn0] at y1 hwl
      clear hx hn0
      have hloop : ∃ G : Bool, (G = true → F = true ∧ 1 ≤ n0 ∧ n0 ≤ 14) ∧ (F = false ∧ G = false ∨ F = true ∧ decide (0 < n0) = false ∧ G = false ∨ F = true ∧ decide (0 < n0) = true ∧ decide ((n0 : Int) ≤ 14) = false ∧ G = false ∨ F = true ∧ decide (0 < n0) = true ∧ decide ((n0 : Int) ≤ 14) = true ∧ G = true) := by
        cases F with
        | false => exact ⟨false, fun e => (by cases e), .inl ⟨rfl, rfl⟩⟩
        | true =>
          by_cases a : 0 < n0
          · by_cases b : (n0 : Int) ≤ 14
            · exact ⟨true, fun _ => ⟨rfl, by omega, by omega⟩, .inr (.inr (.inr ⟨rfl, decide_eq_true a, decide_eq_true b, rfl⟩))⟩
            · exact ⟨false, fun e => (by cases e), .inr (.inr (.inl ⟨rfl, decide_eq_true a, decide_eq_false b, rfl⟩))⟩
          · exact ⟨false, fun e => (by cases e), .inr (.inl ⟨rfl, decide_eq_false a, rfl⟩)⟩
      obtain ⟨G, hG, hcs⟩ := hloop
      have HG : Hid (G = true → Upto (fun _ x => LFine x) xs k ∧ 1 ≤ n0 ∧ n0 ≤ 14) := Lib.hid (fun h => ⟨HF.out (hG h).1, (hG h).2⟩)
      clear hG HF
      rcases hcs with ⟨rfl, rfl⟩ | ⟨rfl, ha, rfl⟩ | ⟨rfl, ha, hb, rfl⟩ | ⟨rfl, ha, hb, rfl⟩
      · go_wp2_with fail
        clear y1
        (try clear ha)
        (try clear hb)
        go_loopw [6, 8] (fun f i wr => ∃ (j : Nat) (G : Bool), j ≤ n0 ∧ i = .int .i64 j ∧ f = .bool G ∧ Hid (G = true → (Upto (fun _ x => LFine x) xs k ∧ 1 ≤ n0 ∧ n0 ≤ 14) ∧ Upto (fun _ u => wordB u = true) xw j) ∧ Hid (w2 = wr)) (fun _ i _ => n0 - (intOf i).toNat)
        case atStart => exact ⟨0, _, Nat.zero_le _, rfl, rfl, Lib.hid (fun e => ⟨HG.out (by first | exact e | trivial | (cases e)), upto_zero _ _⟩), Lib.hid (by trivial)⟩
        case round =>
          clear HG
          obtain ⟨j, G, hj, rfl, rfl, HG, HW⟩ := hrel
          obtain rfl := HW.out
          obtain ⟨g2, off2, hA2, -, hcell⟩ := row_at HX2.out.1 HX1.out
          injection hA2 with hA2
          injection hA2 with hg ho
          subst hg ho
          have y1 := hcell 1 _ rfl
          simp only at y1
          rw [← HN0.out] at y1
          clear hcell
          by_cases hjl : j < n0
          · have hj1 : (j : Int) < (n0 : Int) := by omega
            have hj0 : (0 : Int) ≤ (j : Int) := by omega
            obtain ⟨u, hu⟩ : ∃ u, xw[j]? = some u := ⟨_, List.getElem?_eq_getElem (by rw [← HN0.out]; exact hjl)⟩
            obtain ⟨g3, off3, hA3, hcell3⟩ := one_at (HX2.out.2 _ (List.mem_of_getElem? HX1.out)).1 hu
            subst hA3
            have z0 := hcell3 _ rfl
            have hus : u.size ≤ 9000 := HS.out.word (List.mem_of_getElem? HX1.out) (List.mem_of_getElem? hu)
            have HU := Lib.hid hu
            clear hcell3 hu
            cases G with
            | false =>
              go_wp2_with fail
              clear y1 z0
              go_roundw
              case rel => exact ⟨j + 1, false, by omega, by go_num, rfl, Lib.hid (fun e => by cases e), Lib.hid (by trivial)⟩
              case measure => simp [intOf]; omega
            | true =>
              obtain ⟨wb, hwb⟩ : ∃ wb, wb = wordB u := ⟨_, rfl⟩
              have HWB := Lib.hid hwb
              clear hwb
              have HG2 := Lib.hid (HG.out rfl)
              clear HG
              go_wp2_with (go_at_call 9; refine (lWord_any _ u (by omega)).mono ?_; rintro e w3 ⟨rfl, rfl⟩; rw [← HWB.out]; clear y1 z0)
              go_roundw
              case rel => exact ⟨j + 1, wb, by omega, by go_num, rfl, Lib.hid (fun e => ⟨HG2.out.1, upto_step HG2.out.2 HU.out (by rw [← HWB.out]; exact e)⟩), Lib.hid (by trivial)⟩
              case measure => simp [intOf]; omega
          · have hj2 : ¬ (j : Int) < (n0 : Int) := by omega
            have hjx : j = xw.length := by rw [← HN0.out]; omega
            have HGF : Hid (G = true → Upto (fun _ x => LFine x) xs (k + 1)) := Lib.hid (fun e => by
              obtain ⟨⟨h1, h2, h3⟩, h4⟩ := HG.out e
              rw [hjx] at h4
              refine upto_step h1 HX1.out ⟨by simp only; rw [← HN0.out]; exact h2, by simp only; rw [← HN0.out]; exact h3, fun u hu => ?_⟩
              obtain ⟨i, hi⟩ := List.getElem?_of_mem hu
              exact upto_all h4 i u hi)
            clear hjx HG
            go_wp2_with fail
            go_roundw
            case rel => exact ⟨k + 1, G, by omega, by go_num, rfl, HGF, Lib.hid (by trivial)⟩
            case measure => simp [intOf]; omega
      · go_wp2_with fail
        clear y1
        (try clear ha)
        (try clear hb)
        go_loopw [6, 8] (fun f i wr => ∃ (j : Nat) (G : Bool), j ≤ n0 ∧ i = .int .i64 j ∧ f = .bool G ∧ Hid (G = true → (Upto (fun _ x => LFine x) xs k ∧ 1 ≤ n0 ∧ n0 ≤ 14) ∧ Upto (fun _ u => wordB u = true) xw j) ∧ Hid (w2 = wr)) (fun _ i _ => n0 - (intOf i).toNat)
        case atStart => exact ⟨0, _, Nat.zero_le _, rfl, rfl, Lib.hid (fun e => ⟨HG.out (by first | exact e | trivial | (cases e)), upto_zero _ _⟩), Lib.hid (by trivial)⟩
        case round =>
          clear HG
          obtain ⟨j, G, hj, rfl, rfl, HG, HW⟩ := hrel
          obtain rfl := HW.out
          obtain ⟨g2, off2, hA2, -, hcell⟩ := row_at HX2.out.1 HX1.out
          injection hA2 with hA2
          injection hA2 with hg ho
          subst hg ho
          have y1 := hcell 1 _ rfl
          simp only at y1
          rw [← HN0.out] at y1
          clear hcell
          by_cases hjl : j < n0
          · have hj1 : (j : Int) < (n0 : Int) := by omega
            have hj0 : (0 : Int) ≤ (j : Int) := by omega
            obtain ⟨u, hu⟩ : ∃ u, xw[j]? = some u := ⟨_, List.getElem?_eq_getElem (by rw [← HN0.out]; exact hjl)⟩
            obtain ⟨g3, off3, hA3, hcell3⟩ := one_at (HX2.out.2 _ (List.mem_of_getElem? HX1.out)).1 hu
            subst hA3
            have z0 := hcell3 _ rfl
            have hus : u.size ≤ 9000 := HS.out.word (List.mem_of_getElem? HX1.out) (List.mem_of_getElem? hu)
            have HU := Lib.hid hu
            clear hcell3 hu
            cases G with
            | false =>
              go_wp2_with fail
              clear y1 z0
              go_roundw
              case rel => exact ⟨j + 1, false, by omega, by go_num, rfl, Lib.hid (fun e => by cases e), Lib.hid (by trivial)⟩
              case measure => simp [intOf]; omega
            | true =>
              obtain ⟨wb, hwb⟩ : ∃ wb, wb = wordB u := ⟨_, rfl⟩
              have HWB := Lib.hid hwb
              clear hwb
              have HG2 := Lib.hid (HG.out rfl)
              clear HG
              go_wp2_with (go_at_call 9; refine (lWord_any _ u (by omega)).mono ?_; rintro e w3 ⟨rfl, rfl⟩; rw [← HWB.out]; clear y1 z0)
              go_roundw
              case rel => exact ⟨j + 1, wb, by omega, by go_num, rfl, Lib.hid (fun e => ⟨HG2.out.1, upto_step HG2.out.2 HU.out (by rw [← HWB.out]; exact e)⟩), Lib.hid (by trivial)⟩
              case measure => simp [intOf]; omega
          · have hj2 : ¬ (j : Int) < (n0 : Int) := by omega
            have hjx : j = xw.length := by rw [← HN0.out]; omega
            have HGF : Hid (G = true → Upto (fun _ x => LFine x) xs (k + 1)) := Lib.hid (fun e => by
              obtain ⟨⟨h1, h2, h3⟩, h4⟩ := HG.out e
              rw [hjx] at h4
              refine upto_step h1 HX1.out ⟨by simp only; rw [← HN0.out]; exact h2, by simp only; rw [← HN0.out]; exact h3, fun u hu => ?_⟩
              obtain ⟨i, hi⟩ := List.getElem?_of_mem hu
              exact upto_all h4 i u hi)
            clear hjx HG
            go_wp2_with fail
            go_roundw
            case rel => exact ⟨k + 1, G, by omega, by go_num, rfl, HGF, Lib.hid (by trivial)⟩
            case measure => simp [intOf]; omega
      · go_wp2_with fail
        clear y1
        (try clear ha)
        (try clear hb)
        go_loopw [6, 8] (fun f i wr => ∃ (j : Nat) (G : Bool), j ≤ n0 ∧ i = .int .i64 j ∧ f = .bool G ∧ Hid (G = true → (Upto (fun _ x => LFine x) xs k ∧ 1 ≤ n0 ∧ n0 ≤ 14) ∧ Upto (fun _ u => wordB u = true) xw j) ∧ Hid (w2 = wr)) (fun _ i _ => n0 - (intOf i).toNat)
        case atStart => exact ⟨0, _, Nat.zero_le _, rfl, rfl, Lib.hid (fun e => ⟨HG.out (by first | exact e | trivial | (cases e)), upto_zero _ _⟩), Lib.hid (by trivial)⟩
        case round =>
          clear HG
          obtain ⟨j, G, hj, rfl, rfl, HG, HW⟩ := hrel
          obtain rfl := HW.out
          obtain ⟨g2, off2, hA2, -, hcell⟩ := row_at HX2.out.1 HX1.out
          injection hA2 with hA2
          injection hA2 with hg ho
          subst hg ho
          have y1 := hcell 1 _ rfl
          simp only at y1
          rw [← HN0.out] at y1
          clear hcell
          by_cases hjl : j < n0
          · have hj1 : (j : Int) < (n0 : Int) := by omega
            have hj0 : (0 : Int) ≤ (j : Int) := by omega
            obtain ⟨u, hu⟩ : ∃ u, xw[j]? = some u := ⟨_, List.getElem?_eq_getElem (by rw [← HN0.out]; exact hjl)⟩
            obtain ⟨g3, off3, hA3, hcell3⟩ := one_at (HX2.out.2 _ (List.mem_of_getElem? HX1.out)).1 hu
            subst hA3
            have z0 := hcell3 _ rfl
            have hus : u.size ≤ 9000 := HS.out.word (List.mem_of_getElem? HX1.out) (List.mem_of_getElem? hu)
            have HU := Lib.hid hu
            clear hcell3 hu
            cases G with
            | false =>
              go_wp2_with fail
              clear y1 z0
              go_roundw
              case rel => exact ⟨j + 1, false, by omega, by go_num, rfl, Lib.hid (fun e => by cases e), Lib.hid (by trivial)⟩
              case measure => simp [intOf]; omega
            | true =>
              obtain ⟨wb, hwb⟩ : ∃ wb, wb = wordB u := ⟨_, rfl⟩
              have HWB := Lib.hid hwb
              clear hwb
              have HG2 := Lib.hid (HG.out rfl)
              clear HG
              go_wp2_with (go_at_call 9; refine (lWord_any _ u (by omega)).mono ?_; rintro e w3 ⟨rfl, rfl⟩; rw [← HWB.out]; clear y1 z0)
              go_roundw
              case rel => exact ⟨j + 1, wb, by omega, by go_num, rfl, Lib.hid (fun e => ⟨HG2.out.1, upto_step HG2.out.2 HU.out (by rw [← HWB.out]; exact e)⟩), Lib.hid (by trivial)⟩
              case measure => simp [intOf]; omega
          · have hj2 : ¬ (j : Int) < (n0 : Int) := by omega
            have hjx : j = xw.length := by rw [← HN0.out]; omega
            have HGF : Hid (G = true → Upto (fun _ x => LFine x) xs (k + 1)) := Lib.hid (fun e => by
              obtain ⟨⟨h1, h2, h3⟩, h4⟩ := HG.out e
              rw [hjx] at h4
              refine upto_step h1 HX1.out ⟨by simp only; rw [← HN0.out]; exact h2, by simp only; rw [← HN0.out]; exact h3, fun u hu => ?_⟩
              obtain ⟨i, hi⟩ := List.getElem?_of_mem hu
              exact upto_all h4 i u hi)
            clear hjx HG
            go_wp2_with fail
            go_roundw
            case rel => exact ⟨k + 1, G, by omega, by go_num, rfl, HGF, Lib.hid (by trivial)⟩
            case measure => simp [intOf]; omega
      · go_wp2_with fail
        clear y1
        (try clear ha)
        (try clear hb)
        go_loopw [6, 8] (fun f i wr => ∃ (j : Nat) (G : Bool), j ≤ n0 ∧ i = .int .i64 j ∧ f = .bool G ∧ Hid (G = true → (Upto (fun _ x => LFine x) xs k ∧ 1 ≤ n0 ∧ n0 ≤ 14) ∧ Upto (fun _ u => wordB u = true) xw j) ∧ Hid (w2 = wr)) (fun _ i _ => n0 - (intOf i).toNat)
        case atStart => exact ⟨0, _, Nat.zero_le _, rfl, rfl, Lib.hid (fun e => ⟨HG.out (by first | exact e | trivial | (cases e)), upto_zero _ _⟩), Lib.hid (by trivial)⟩
        case round =>
          clear HG
          obtain ⟨j, G, hj, rfl, rfl, HG, HW⟩ := hrel
          obtain rfl := HW.out
          obtain ⟨g2, off2, hA2, -, hcell⟩ := row_at HX2.out.1 HX1.out
          injection hA2 with hA2
          injection hA2 with hg ho
          subst hg ho
          have y1 := hcell 1 _ rfl
          simp only at y1
          rw [← HN0.out] at y1
          clear hcell
          by_cases hjl : j < n0
          · have hj1 : (j : Int) < (n0 : Int) := by omega
            have hj0 : (0 : Int) ≤ (j : Int) := by omega
            obtain ⟨u, hu⟩ : ∃ u, xw[j]? = some u := ⟨_, List.getElem?_eq_getElem (by rw [← HN0.out]; exact hjl)⟩
            obtain ⟨g3, off3, hA3, hcell3⟩ := one_at (HX2.out.2 _ (List.mem_of_getElem? HX1.out)).1 hu
            subst hA3
            have z0 := hcell3 _ rfl
            have hus : u.size ≤ 9000 := HS.out.word (List.mem_of_getElem? HX1.out) (List.mem_of_getElem? hu)
            have HU := Lib.hid hu
            clear hcell3 hu
            cases G with
            | false =>
              go_wp2_with fail
              clear y1 z0
              go_roundw
              case rel => exact ⟨j + 1, false, by omega, by go_num, rfl, Lib.hid (fun e => by cases e), Lib.hid (by trivial)⟩
              case measure => simp [intOf]; omega
            | true =>
              obtain ⟨wb, hwb⟩ : ∃ wb, wb = wordB u := ⟨_, rfl⟩
              have HWB := Lib.hid hwb
              clear hwb
              have HG2 := Lib.hid (HG.out rfl)
              clear HG
              go_wp2_with (go_at_call 9; refine (lWord_any _ u (by omega)).mono ?_; rintro e w3 ⟨rfl, rfl⟩; rw [← HWB.out]; clear y1 z0)
              go_roundw
              case rel => exact ⟨j + 1, wb, by omega, by go_num, rfl, Lib.hid (fun e => ⟨HG2.out.1, upto_step HG2.out.2 HU.out (by rw [← HWB.out]; exact e)⟩), Lib.hid (by trivial)⟩
              case measure => simp [intOf]; omega
          · have hj2 : ¬ (j : Int) < (n0 : Int) := by omega
            have hjx : j = xw.length := by rw [← HN0.out]; omega
            have HGF : Hid (G = true → Upto (fun _ x => LFine x) xs (k + 1)) := Lib.hid (fun e => by
              obtain ⟨⟨h1, h2, h3⟩, h4⟩ := HG.out e
              rw [hjx] at h4
              refine upto_step h1 HX1.out ⟨by simp only; rw [← HN0.out]; exact h2, by simp only; rw [← HN0.out]; exact h3, fun u hu => ?_⟩
              obtain ⟨i, hi⟩ := List.getElem?_of_mem hu
              exact upto_all h4 i u hi)
            clear hjx HG
            go_wp2_with fail
            go_roundw
            case rel => exact ⟨k + 1, G, by omega, by go_num, rfl, HGF, Lib.hid (by trivial)⟩
            case measure => simp [intOf]; omega
    · have hk2 : ¬ (k : Int) < (xs.length : Int) := by omega
      have HFX : Hid (F = true → ∀ ws ∈ xs.map Ln.bs, fineL ws) := Lib.hid (fun e ws hws => by
        obtain ⟨x, hx, rfl⟩ := List.mem_map.1 hws
        obtain ⟨i, hi⟩ := List.getElem?_of_mem hx
        exact lfine_bs (HF.out e i x (by have := (List.getElem?_eq_some_iff.1 hi).1; omega) hi))
      have hps := HS.out.print
      have HPS := Lib.hid hps
      clear HF hps
      go_wp2_with fail
      refine (print_s w2 xs _ HX2.out hxn (by have := HPS.out; omega)).mono ?_
      rintro e w3 ⟨P, rfl, hP, hb⟩
      have HP := Lib.hid hP
      have hPz : P.size ≤ 9000 := by rw [hP, toB_size]; exact HPS.out
      have H3 := Lib.hid (H2.out.trans (hb.mono H2.out.size))
      have HX3 := Lib.hid (HX2.out.below hb)
      clear hb hP
      cases F with
      | false =>
        clear HFX HX3 HP
        go_wp2_with fail
        refine (lines_all w3 s (by have := HSZ.out; omega) (HT.out.below H3.out (Nat.le_refl _))).mono ?_
        rintro e w6 ⟨us, Aa, ca, ka, na, rfl, hl, hb, hf⟩
        have HAL := Lib.hid hl
        have H6 := Lib.hid (H3.out.trans (hb.mono H3.out.size))
        have HAF := Lib.hid hf
        clear hl hb hf
        rcases hes : textE s.data.toList with _ | ⟨k0, no0⟩
        case some =>
          have hk : (k0 = 71 ∨ k0 = 72 ∨ k0 = 2) ∧ us = [] ∧ ka = k0 := by
            rcases HAF.out with ⟨h1, h2⟩ | ⟨h1, -⟩
            · rw [hes] at h1
              simp only [Option.some.injEq, Prod.mk.injEq] at h1
              exact ⟨(textE_some hes).1, h2, h1.1.symm⟩
            · rw [hes] at h1; cases h1
          obtain ⟨hk1, hk2, rfl⟩ := hk
          have q1 : (ka == 0) = false := by rw [beq_eq_false_iff_ne]; omega
          have q2 : (ka != 0) = true := by rw [bne, q1]; rfl
          have q3 : ((us.length : Int) == 0) = true := by rw [hk2]; rfl
          clear hes hk1 hk2
          go_wp2_with fail
          go_ret
          exact ⟨rfl, H6.out⟩
        case none =>
          have hk : ka = 0 ∧ us.map Ln.told = toldL (textL s.data.toList) := by
            rcases HAF.out with ⟨h1, -⟩ | ⟨-, h2, h3, h4⟩
            · rw [hes] at h1; cases h1
            · exact ⟨h2, h4⟩
          obtain ⟨rfl, hat⟩ := hk
          have hab : us.map Ln.bs = (textL s.data.toList).map (·.2) := by
            rw [bs_told hat]
            unfold toldL
            rw [List.map_map]
            apply List.map_congr_left
            intro y _
            unfold toldOf
            simp only [Function.comp_apply, List.map_map]
            have e2 : ((fun s : ByteArray => s.data.toList) ∘ toB) = id := by funext l; exact toB_list l
            rw [e2, List.map_id]
          have hfa : ∀ ws ∈ us.map Ln.bs, fineL ws := by
            rw [hab]
            intro ws hws
            obtain ⟨y, hy, rfl⟩ := List.mem_map.1 hws
            exact textL_fine (textE_none hes).2 y hy
          have hlen : us.length ≤ 4097 := by
            have h1 := told_len HAF.out
            have h2 := (textE_none hes).1
            omega
          have hpz : (printL (us.map Ln.bs)).length ≤ 1000000 := by
            have := fine_len _ hfa
            rw [List.length_map] at this
            omega
          obtain ⟨ls, hls⟩ : ∃ ls, ls = us.map Ln.bs := ⟨_, rfl⟩
          have HLS := Lib.hid hls
          have HFA := Lib.hid hfa
          have HPZ := Lib.hid hpz
          clear hes hat hab hfa hpz hls
          have hq1 : ((0 : Int) == 0) = true := rfl
          go_wp2_with fail
          refine (print_s w6 us _ HAL.out (by omega) HPZ.out).mono ?_
          rintro e w7 ⟨P1, rfl, hP1, hb⟩
          rw [← HLS.out] at hP1
          have H7 := Lib.hid (H6.out.trans (hb.mono H6.out.size))
          have HA7 := Lib.hid (HAL.out.below hb)
          clear hb
          by_cases h4 : 4096 < (printL ls).length
          case pos =>
            go_wp2_with fail
            refine (lines_too_long w7 ls (by rw [HLS.out]; exact HFA.out) (HT.out.below H7.out (Nat.le_refl _)) h4 (by rw [HLS.out]; exact HPZ.out)).mono ?_
            rintro e w8 ⟨rfl, hb⟩
            have H8 := Lib.hid (H7.out.trans (hb.mono H7.out.size))
            have HA8 := Lib.hid (HA7.out.below hb)
            have HL4 := Lib.hid h4
            clear hb hP1 h4
            go_wp2_with fail
            refine (print_s w8 us _ HA8.out (by omega) HPZ.out).mono ?_
            rintro e w9 ⟨P2, rfl, hP2, hb⟩
            rw [← HLS.out] at hP2
            have hpz2 : (4096 : Int) < (P2.size : Int) := by rw [hP2, toB_size]; have := HL4.out; omega
            have H9 := Lib.hid (H8.out.trans (hb.mono H8.out.size))
            clear hb hP2
            go_wp2_with fail
            go_ret
            exact ⟨rfl, H9.out⟩
          case neg =>
            go_wp2_with fail
            refine (lines_printed w7 ls (by rw [HLS.out]; exact HFA.out) (HT.out.below H7.out (Nat.le_refl _)) (by omega)).mono ?_
            rintro e w8 ⟨zs, Az, cz, rfl, hzt, hzl, hb⟩
            have H8 := Lib.hid (H7.out.trans (hb.mono H7.out.size))
            have HA8 := Lib.hid (HA7.out.below hb)
            have HL4 := Lib.hid h4
            have hzb := bs_number hzt
            rw [HLS.out] at hzb
            have HZB := Lib.hid hzb
            have HZL := Lib.hid hzl
            have hzx : zs.length = us.length := by
              have := congrArg List.length hzb
              rw [List.length_map, List.length_map] at this
              exact this
            have HZX := Lib.hid hzx
            clear hb hP1 h4 hzb hzl hzt hzx
            go_wp2_with fail
            refine (print_s w8 us _ HA8.out (by omega) HPZ.out).mono ?_
            rintro e w9 ⟨P2, rfl, hP2, hb⟩
            rw [← HLS.out] at hP2
            have hpz2 : ¬ (4096 : Int) < (P2.size : Int) := by rw [hP2, toB_size]; have := HL4.out; omega
            have H9 := Lib.hid (H8.out.trans (hb.mono H8.out.size))
            have HA9 := Lib.hid (HA8.out.below hb)
            have HZ9 := Lib.hid (HZL.out.below hb)
            have hq1 : ((zs.length : Int) == (us.length : Int)) = true := by rw [HZX.out]; simp
            have hq2 : ((zs.length : Int) != (us.length : Int)) = false := by rw [bne, hq1]; rfl
            clear hb hP2
            go_wp2_with fail
            clear hq1 hq2
            go_loopw [20] (fun i wr => ∃ k : Nat, k ≤ us.length ∧ i = .int .i64 k ∧ Hid (∃ m, wr = w9.drewN m)) (fun i _ => us.length - (intOf i).toNat)
            case atStart => exact ⟨0, Nat.zero_le _, rfl, Lib.hid ⟨0, rfl⟩⟩
            case round =>
              obtain ⟨i, hi, rfl, HW⟩ := hrel
              have HXr := Lib.hid (alike_ls HW.out HA9.out)
              have HZr := Lib.hid (alike_ls HW.out HZ9.out)
              by_cases hil : i < us.length
              · have hi1 : (i : Int) < (us.length : Int) := by omega
                have hi2 : (i : Int) < (zs.length : Int) := by have := HZX.out; omega
                have hi0 : (0 : Int) ≤ (i : Int) := by omega
                obtain ⟨x, hx⟩ : ∃ x, us[i]? = some x := ⟨_, List.getElem?_eq_getElem hil⟩
                obtain ⟨z, hz⟩ : ∃ z, zs[i]? = some z := ⟨_, List.getElem?_eq_getElem (by have := HZX.out; omega)⟩
                obtain ⟨gx, ox, hA, -, hcell⟩ := row_at HXr.out.1 hx
                subst hA
                have y1 := hcell 1 _ rfl
                clear hcell
                obtain ⟨gz, oz, hA, -, hcell⟩ := row_at HZr.out.1 hz
                subst hA
                have z1 := hcell 1 _ rfl
                clear hcell
                have hwz := same_at HZB.out hx hz
                have HXW := Lib.hid (HXr.out.2 x (List.mem_of_getElem? hx))
                have HZW := Lib.hid (HZr.out.2 z (List.mem_of_getElem? hz))
                clear hx hz
                obtain ⟨xn, xv, xw⟩ := x
                obtain ⟨zn, zv, zw⟩ := z
                simp only at y1 z1 hwz
                have hcall : ∀ n, Calls Tryd.prog 12 #[xv, zv] (wr.drewN n) fun e w'' => e = .returned (.bool true) ∧ ∃ n, w'' = wr.drewN n := fun n => by
                  refine (sameWords_any (wr.drewN n) xw zw xv zv HXW.out.1 HZW.out.1 HXW.out.2 HZW.out.2).mono ?_
                  rintro e w' ⟨rfl, n2, rfl⟩
                  rw [decide_eq_true hwz.symm]
                  exact ⟨rfl, n + n2, by rw [World.drewN_drewN]⟩
                have HC := Lib.hid hcall
                clear hcall hwz
                go_upto_region 34 with fail
                go_quiet ((go_at_call 12; exact HC.out _))
                clear y1 z1
                go_wp2_with fail
                go_roundw
                case rel => exact ⟨i + 1, by omega, by go_num, Lib.hid (drawn_on HW.out nq)⟩
                case measure => simp [intOf]; omega
              · have hi2 : ¬ (i : Int) < (us.length : Int) := by omega
                go_wp2_with fail
                go_ret
                obtain ⟨m, rfl⟩ := HW.out
                exact ⟨rfl, below_drewn H9.out m⟩
      | true =>
        have HFL := Lib.hid (HFX.out rfl)
        clear HFX
        by_cases h4 : (P.size : Int) ≤ 4096
        case neg =>
          clear HX3 HP HFL
          go_wp2_with fail
          refine (lines_all w3 s (by have := HSZ.out; omega) (HT.out.below H3.out (Nat.le_refl _))).mono ?_
          rintro e w6 ⟨us, Aa, ca, ka, na, rfl, hl, hb, hf⟩
          have HAL := Lib.hid hl
          have H6 := Lib.hid (H3.out.trans (hb.mono H3.out.size))
          have HAF := Lib.hid hf
          clear hl hb hf
          rcases hes : textE s.data.toList with _ | ⟨k0, no0⟩
          case some =>
            have hk : (k0 = 71 ∨ k0 = 72 ∨ k0 = 2) ∧ us = [] ∧ ka = k0 := by
              rcases HAF.out with ⟨h1, h2⟩ | ⟨h1, -⟩
              · rw [hes] at h1
                simp only [Option.some.injEq, Prod.mk.injEq] at h1
                exact ⟨(textE_some hes).1, h2, h1.1.symm⟩
              · rw [hes] at h1; cases h1
            obtain ⟨hk1, hk2, rfl⟩ := hk
            have q1 : (ka == 0) = false := by rw [beq_eq_false_iff_ne]; omega
            have q2 : (ka != 0) = true := by rw [bne, q1]; rfl
            have q3 : ((us.length : Int) == 0) = true := by rw [hk2]; rfl
            clear hes hk1 hk2
            go_wp2_with fail
            go_ret
            exact ⟨rfl, H6.out⟩
          case none =>
            have hk : ka = 0 ∧ us.map Ln.told = toldL (textL s.data.toList) := by
              rcases HAF.out with ⟨h1, -⟩ | ⟨-, h2, h3, h4⟩
              · rw [hes] at h1; cases h1
              · exact ⟨h2, h4⟩
            obtain ⟨rfl, hat⟩ := hk
            have hab : us.map Ln.bs = (textL s.data.toList).map (·.2) := by
              rw [bs_told hat]
              unfold toldL
              rw [List.map_map]
              apply List.map_congr_left
              intro y _
              unfold toldOf
              simp only [Function.comp_apply, List.map_map]
              have e2 : ((fun s : ByteArray => s.data.toList) ∘ toB) = id := by funext l; exact toB_list l
              rw [e2, List.map_id]
            have hfa : ∀ ws ∈ us.map Ln.bs, fineL ws := by
              rw [hab]
              intro ws hws
              obtain ⟨y, hy, rfl⟩ := List.mem_map.1 hws
              exact textL_fine (textE_none hes).2 y hy
            have hlen : us.length ≤ 4097 := by
              have h1 := told_len HAF.out
              have h2 := (textE_none hes).1
              omega
            have hpz : (printL (us.map Ln.bs)).length ≤ 1000000 := by
              have := fine_len _ hfa
              rw [List.length_map] at this
              omega
            obtain ⟨ls, hls⟩ : ∃ ls, ls = us.map Ln.bs := ⟨_, rfl⟩
            have HLS := Lib.hid hls
            have HFA := Lib.hid hfa
            have HPZ := Lib.hid hpz
            clear hes hat hab hfa hpz hls
            have hq1 : ((0 : Int) == 0) = true := rfl
            go_wp2_with fail
            refine (print_s w6 us _ HAL.out (by omega) HPZ.out).mono ?_
            rintro e w7 ⟨P1, rfl, hP1, hb⟩
            rw [← HLS.out] at hP1
            have H7 := Lib.hid (H6.out.trans (hb.mono H6.out.size))
            have HA7 := Lib.hid (HAL.out.below hb)
            clear hb
            by_cases h4 : 4096 < (printL ls).length
            case pos =>
              go_wp2_with fail
              refine (lines_too_long w7 ls (by rw [HLS.out]; exact HFA.out) (HT.out.below H7.out (Nat.le_refl _)) h4 (by rw [HLS.out]; exact HPZ.out)).mono ?_
              rintro e w8 ⟨rfl, hb⟩
              have H8 := Lib.hid (H7.out.trans (hb.mono H7.out.size))
              have HA8 := Lib.hid (HA7.out.below hb)
              have HL4 := Lib.hid h4
              clear hb hP1 h4
              go_wp2_with fail
              refine (print_s w8 us _ HA8.out (by omega) HPZ.out).mono ?_
              rintro e w9 ⟨P2, rfl, hP2, hb⟩
              rw [← HLS.out] at hP2
              have hpz2 : (4096 : Int) < (P2.size : Int) := by rw [hP2, toB_size]; have := HL4.out; omega
              have H9 := Lib.hid (H8.out.trans (hb.mono H8.out.size))
              clear hb hP2
              go_wp2_with fail
              go_ret
              exact ⟨rfl, H9.out⟩
            case neg =>
              go_wp2_with fail
              refine (lines_printed w7 ls (by rw [HLS.out]; exact HFA.out) (HT.out.below H7.out (Nat.le_refl _)) (by omega)).mono ?_
              rintro e w8 ⟨zs, Az, cz, rfl, hzt, hzl, hb⟩
              have H8 := Lib.hid (H7.out.trans (hb.mono H7.out.size))
              have HA8 := Lib.hid (HA7.out.below hb)
              have HL4 := Lib.hid h4
              have hzb := bs_number hzt
              rw [HLS.out] at hzb
              have HZB := Lib.hid hzb
              have HZL := Lib.hid hzl
              have hzx : zs.length = us.length := by
                have := congrArg List.length hzb
                rw [List.length_map, List.length_map] at this
                exact this
              have HZX := Lib.hid hzx
              clear hb hP1 h4 hzb hzl hzt hzx
              go_wp2_with fail
              refine (print_s w8 us _ HA8.out (by omega) HPZ.out).mono ?_
              rintro e w9 ⟨P2, rfl, hP2, hb⟩
              rw [← HLS.out] at hP2
              have hpz2 : ¬ (4096 : Int) < (P2.size : Int) := by rw [hP2, toB_size]; have := HL4.out; omega
              have H9 := Lib.hid (H8.out.trans (hb.mono H8.out.size))
              have HA9 := Lib.hid (HA8.out.below hb)
              have HZ9 := Lib.hid (HZL.out.below hb)
              have hq1 : ((zs.length : Int) == (us.length : Int)) = true := by rw [HZX.out]; simp
              have hq2 : ((zs.length : Int) != (us.length : Int)) = false := by rw [bne, hq1]; rfl
              clear hb hP2
              go_wp2_with fail
              clear hq1 hq2
              go_loopw [20] (fun i wr => ∃ k : Nat, k ≤ us.length ∧ i = .int .i64 k ∧ Hid (∃ m, wr = w9.drewN m)) (fun i _ => us.length - (intOf i).toNat)
              case atStart => exact ⟨0, Nat.zero_le _, rfl, Lib.hid ⟨0, rfl⟩⟩
              case round =>
                obtain ⟨i, hi, rfl, HW⟩ := hrel
                have HXr := Lib.hid (alike_ls HW.out HA9.out)
                have HZr := Lib.hid (alike_ls HW.out HZ9.out)
                by_cases hil : i < us.length
                · have hi1 : (i : Int) < (us.length : Int) := by omega
                  have hi2 : (i : Int) < (zs.length : Int) := by have := HZX.out; omega
                  have hi0 : (0 : Int) ≤ (i : Int) := by omega
                  obtain ⟨x, hx⟩ : ∃ x, us[i]? = some x := ⟨_, List.getElem?_eq_getElem hil⟩
                  obtain ⟨z, hz⟩ : ∃ z, zs[i]? = some z := ⟨_, List.getElem?_eq_getElem (by have := HZX.out; omega)⟩
                  obtain ⟨gx, ox, hA, -, hcell⟩ := row_at HXr.out.1 hx
                  subst hA
                  have y1 := hcell 1 _ rfl
                  clear hcell
                  obtain ⟨gz, oz, hA, -, hcell⟩ := row_at HZr.out.1 hz
                  subst hA
                  have z1 := hcell 1 _ rfl
                  clear hcell
                  have hwz := same_at HZB.out hx hz
                  have HXW := Lib.hid (HXr.out.2 x (List.mem_of_getElem? hx))
                  have HZW := Lib.hid (HZr.out.2 z (List.mem_of_getElem? hz))
                  clear hx hz
                  obtain ⟨xn, xv, xw⟩ := x
                  obtain ⟨zn, zv, zw⟩ := z
                  simp only at y1 z1 hwz
                  have hcall : ∀ n, Calls Tryd.prog 12 #[xv, zv] (wr.drewN n) fun e w'' => e = .returned (.bool true) ∧ ∃ n, w'' = wr.drewN n := fun n => by
                    refine (sameWords_any (wr.drewN n) xw zw xv zv HXW.out.1 HZW.out.1 HXW.out.2 HZW.out.2).mono ?_
                    rintro e w' ⟨rfl, n2, rfl⟩
                    rw [decide_eq_true hwz.symm]
                    exact ⟨rfl, n + n2, by rw [World.drewN_drewN]⟩
                  have HC := Lib.hid hcall
                  clear hcall hwz
                  go_upto_region 34 with fail
                  go_quiet ((go_at_call 12; exact HC.out _))
                  clear y1 z1
                  go_wp2_with fail
                  go_roundw
                  case rel => exact ⟨i + 1, by omega, by go_num, Lib.hid (drawn_on HW.out nq)⟩
                  case measure => simp [intOf]; omega
                · have hi2 : ¬ (i : Int) < (us.length : Int) := by omega
                  go_wp2_with fail
                  go_ret
                  obtain ⟨m, rfl⟩ := HW.out
                  exact ⟨rfl, below_drewn H9.out m⟩
        have HP4 : Hid ((printL (xs.map Ln.bs)).length ≤ 4096) := Lib.hid (by
          have := congrArg ByteArray.size HP.out
          rw [toB_size] at this
          omega)
        go_wp2_with fail
        rw [HP.out]
        refine (lines_printed w3 _ HFL.out (HT.out.below H3.out (Nat.le_refl _)) HP4.out).mono ?_
        rintro e w4 ⟨zs, Az, cz, rfl, hzt, hzl, hb⟩
        have hzx : zs.length = xs.length := by
          have := congrArg List.length (bs_number hzt)
          rw [List.length_map, List.length_map] at this
          exact this
        have HZT := Lib.hid hzt
        have HZL := Lib.hid hzl
        have H4 := Lib.hid (H3.out.trans (hb.mono H3.out.size))
        have HX4 := Lib.hid (HX3.out.below hb)
        have hq1 : ((zs.length : Int) == (xs.length : Int)) = true := by rw [hzx]; simp
        have hq2 : ((zs.length : Int) != (xs.length : Int)) = false := by rw [bne, hq1]; rfl
        clear hzt hzl hb HX3
        go_wp2_with fail
        clear hq1 hq2
        go_loopw [13] (fun i wr => ∃ k : Nat, k ≤ xs.length ∧ i = .int .i64 k ∧ Hid (∃ m, wr = w4.drewN m)) (fun i _ => xs.length - (intOf i).toNat)
        case atStart => exact ⟨0, Nat.zero_le _, rfl, Lib.hid ⟨0, rfl⟩⟩
        case round =>
          obtain ⟨i, hi, rfl, HW⟩ := hrel
          have HXr := Lib.hid (alike_ls HW.out HX4.out)
          have HZr := Lib.hid (alike_ls HW.out HZL.out)
          by_cases hil : i < xs.length
          · have hi1 : (i : Int) < (xs.length : Int) := by omega
            have hi2 : (i : Int) < (zs.length : Int) := by omega
            have hi0 : (0 : Int) ≤ (i : Int) := by omega
            obtain ⟨x, hx⟩ : ∃ x, xs[i]? = some x := ⟨_, List.getElem?_eq_getElem hil⟩
            obtain ⟨z, hz⟩ : ∃ z, zs[i]? = some z := ⟨_, List.getElem?_eq_getElem (by omega)⟩
            obtain ⟨gx, ox, hA, -, hcell⟩ := row_at HXr.out.1 hx
            (try subst hA)
            (try (injection hA with hA; injection hA with hg ho; subst hg ho))
            have y1 := hcell 1 _ rfl
            clear hcell
            obtain ⟨gz, oz, hA, -, hcell⟩ := row_at HZr.out.1 hz
            subst hA
            have z0 := hcell 0 _ rfl
            have z1 := hcell 1 _ rfl
            clear hcell
            simp only [Nat.add_zero] at z0
            have hwz := same_at (bs_number HZT.out) hx hz
            have hzn := number_at HZT.out hz
            have HXW := Lib.hid (HXr.out.2 x (List.mem_of_getElem? hx))
            have HZW := Lib.hid (HZr.out.2 z (List.mem_of_getElem? hz))
            clear hx hz
            obtain ⟨xn, xv, xw⟩ := x
            obtain ⟨zn, zv, zw⟩ := z
            simp only at y1 z0 z1 hwz hzn
            have hcall : ∀ n, Calls Tryd.prog 12 #[zv, xv] (wr.drewN n) fun e w'' => e = .returned (.bool true) ∧ ∃ n, w'' = wr.drewN n := fun n => by
              refine (sameWords_any (wr.drewN n) zw xw zv xv HZW.out.1 HXW.out.1 HZW.out.2 HXW.out.2).mono ?_
              rintro e w' ⟨rfl, n2, rfl⟩
              rw [decide_eq_true hwz]
              exact ⟨rfl, n + n2, by rw [World.drewN_drewN]⟩
            have HC := Lib.hid hcall
            have g1 : (zn == (i : Int) + 1) = true := by rw [hzn]; simp
            have g2 : (zn != (i : Int) + 1) = false := by rw [bne, g1]; rfl
            clear hcall hwz hzn
            go_upto_region 21 with fail
            go_quiet ((go_at_call 12; exact HC.out _))
            clear y1 z0 z1 g1 g2
            go_wp2_with fail
            go_roundw
            case rel => exact ⟨i + 1, by omega, by go_num, Lib.hid (drawn_on HW.out nq)⟩
            case measure => simp [intOf]; omega
          · have hi2 : ¬ (i : Int) < (xs.length : Int) := by omega
            have HBE : Hid (Below w.heap.size w wr) := Lib.hid (by obtain ⟨m, rfl⟩ := HW.out; exact below_drewn H4.out m)
            clear HXr HZr HZT HX4 HZL H4 HP4 HFL HP H3 HW
            go_wp2_with fail
            refine (lines_all wr s (by have := HSZ.out; omega) (HT.out.below HBE.out (Nat.le_refl _))).mono ?_
            rintro e w6 ⟨us, Aa, ca, ka, na, rfl, hl, hb, hf⟩
            have HAL := Lib.hid hl
            have H6 := Lib.hid (HBE.out.trans (hb.mono HBE.out.size))
            have HAF := Lib.hid hf
            clear hl hb hf
            rcases hes : textE s.data.toList with _ | ⟨k0, no0⟩
            case some =>
              have hk : (k0 = 71 ∨ k0 = 72 ∨ k0 = 2) ∧ us = [] ∧ ka = k0 := by
                rcases HAF.out with ⟨h1, h2⟩ | ⟨h1, -⟩
                · rw [hes] at h1
                  simp only [Option.some.injEq, Prod.mk.injEq] at h1
                  exact ⟨(textE_some hes).1, h2, h1.1.symm⟩
                · rw [hes] at h1; cases h1
              obtain ⟨hk1, hk2, rfl⟩ := hk
              have q1 : (ka == 0) = false := by rw [beq_eq_false_iff_ne]; omega
              have q2 : (ka != 0) = true := by rw [bne, q1]; rfl
              have q3 : ((us.length : Int) == 0) = true := by rw [hk2]; rfl
              clear hes hk1 hk2
              go_wp2_with fail
              go_ret
              exact ⟨rfl, H6.out⟩
            case none =>
              have hk : ka = 0 ∧ us.map Ln.told = toldL (textL s.data.toList) := by
                rcases HAF.out with ⟨h1, -⟩ | ⟨-, h2, h3, h4⟩
                · rw [hes] at h1; cases h1
                · exact ⟨h2, h4⟩
              obtain ⟨rfl, hat⟩ := hk
              have hab : us.map Ln.bs = (textL s.data.toList).map (·.2) := by
                rw [bs_told hat]
                unfold toldL
                rw [List.map_map]
                apply List.map_congr_left
                intro y _
                unfold toldOf
                simp only [Function.comp_apply, List.map_map]
                have e2 : ((fun s : ByteArray => s.data.toList) ∘ toB) = id := by funext l; exact toB_list l
                rw [e2, List.map_id]
              have hfa : ∀ ws ∈ us.map Ln.bs, fineL ws := by
                rw [hab]
                intro ws hws
                obtain ⟨y, hy, rfl⟩ := List.mem_map.1 hws
                exact textL_fine (textE_none hes).2 y hy
              have hlen : us.length ≤ 4097 := by
                have h1 := told_len HAF.out
                have h2 := (textE_none hes).1
                omega
              have hpz : (printL (us.map Ln.bs)).length ≤ 1000000 := by
                have := fine_len _ hfa
                rw [List.length_map] at this
                omega
              obtain ⟨ls, hls⟩ : ∃ ls, ls = us.map Ln.bs := ⟨_, rfl⟩
              have HLS := Lib.hid hls
              have HFA := Lib.hid hfa
              have HPZ := Lib.hid hpz
              clear hes hat hab hfa hpz hls
              have hq1 : ((0 : Int) == 0) = true := rfl
              go_wp2_with fail
              refine (print_s w6 us _ HAL.out (by omega) HPZ.out).mono ?_
              rintro e w7 ⟨P1, rfl, hP1, hb⟩
              rw [← HLS.out] at hP1
              have H7 := Lib.hid (H6.out.trans (hb.mono H6.out.size))
              have HA7 := Lib.hid (HAL.out.below hb)
              clear hb
              by_cases h4 : 4096 < (printL ls).length
              case pos =>
                go_wp2_with fail
                refine (lines_too_long w7 ls (by rw [HLS.out]; exact HFA.out) (HT.out.below H7.out (Nat.le_refl _)) h4 (by rw [HLS.out]; exact HPZ.out)).mono ?_
                rintro e w8 ⟨rfl, hb⟩
                have H8 := Lib.hid (H7.out.trans (hb.mono H7.out.size))
                have HA8 := Lib.hid (HA7.out.below hb)
                have HL4 := Lib.hid h4
                clear hb hP1 h4
                go_wp2_with fail
                refine (print_s w8 us _ HA8.out (by omega) HPZ.out).mono ?_
                rintro e w9 ⟨P2, rfl, hP2, hb⟩
                rw [← HLS.out] at hP2
                have hpz2 : (4096 : Int) < (P2.size : Int) := by rw [hP2, toB_size]; have := HL4.out; omega
                have H9 := Lib.hid (H8.out.trans (hb.mono H8.out.size))
                clear hb hP2
                go_wp2_with fail
                go_ret
                exact ⟨rfl, H9.out⟩
              case neg =>
                go_wp2_with fail
                refine (lines_printed w7 ls (by rw [HLS.out]; exact HFA.out) (HT.out.below H7.out (Nat.le_refl _)) (by omega)).mono ?_
                rintro e w8 ⟨zs, Az, cz, rfl, hzt, hzl, hb⟩
                have H8 := Lib.hid (H7.out.trans (hb.mono H7.out.size))
                have HA8 := Lib.hid (HA7.out.below hb)
                have HL4 := Lib.hid h4
                have hzb := bs_number hzt
                rw [HLS.out] at hzb
                have HZB := Lib.hid hzb
                have HZL := Lib.hid hzl
                have hzx : zs.length = us.length := by
                  have := congrArg List.length hzb
                  rw [List.length_map, List.length_map] at this
                  exact this
                have HZX := Lib.hid hzx
                clear hb hP1 h4 hzb hzl hzt hzx
                go_wp2_with fail
                refine (print_s w8 us _ HA8.out (by omega) HPZ.out).mono ?_
                rintro e w9 ⟨P2, rfl, hP2, hb⟩
                rw [← HLS.out] at hP2
                have hpz2 : ¬ (4096 : Int) < (P2.size : Int) := by rw [hP2, toB_size]; have := HL4.out; omega
                have H9 := Lib.hid (H8.out.trans (hb.mono H8.out.size))
                have HA9 := Lib.hid (HA8.out.below hb)
                have HZ9 := Lib.hid (HZL.out.below hb)
                have hq1 : ((zs.length : Int) == (us.length : Int)) = true := by rw [HZX.out]; simp
                have hq2 : ((zs.length : Int) != (us.length : Int)) = false := by rw [bne, hq1]; rfl
                clear hb hP2
                go_wp2_with fail
                clear hq1 hq2
                go_loopw [20] (fun i wr => ∃ k : Nat, k ≤ us.length ∧ i = .int .i64 k ∧ Hid (∃ m, wr = w9.drewN m)) (fun i _ => us.length - (intOf i).toNat)
                case atStart => exact ⟨0, Nat.zero_le _, rfl, Lib.hid ⟨0, rfl⟩⟩
                case round =>
                  obtain ⟨i, hi, rfl, HW⟩ := hrel
                  have HXr := Lib.hid (alike_ls HW.out HA9.out)
                  have HZr := Lib.hid (alike_ls HW.out HZ9.out)
                  by_cases hil : i < us.length
                  · have hi1 : (i : Int) < (us.length : Int) := by omega
                    have hi2 : (i : Int) < (zs.length : Int) := by have := HZX.out; omega
                    have hi0 : (0 : Int) ≤ (i : Int) := by omega
                    obtain ⟨x, hx⟩ : ∃ x, us[i]? = some x := ⟨_, List.getElem?_eq_getElem hil⟩
                    obtain ⟨z, hz⟩ : ∃ z, zs[i]? = some z := ⟨_, List.getElem?_eq_getElem (by have := HZX.out; omega)⟩
                    obtain ⟨gx, ox, hA, -, hcell⟩ := row_at HXr.out.1 hx
                    subst hA
                    have y1 := hcell 1 _ rfl
                    clear hcell
                    obtain ⟨gz, oz, hA, -, hcell⟩ := row_at HZr.out.1 hz
                    subst hA
                    have z1 := hcell 1 _ rfl
                    clear hcell
                    have hwz := same_at HZB.out hx hz
                    have HXW := Lib.hid (HXr.out.2 x (List.mem_of_getElem? hx))
                    have HZW := Lib.hid (HZr.out.2 z (List.mem_of_getElem? hz))
                    clear hx hz
                    obtain ⟨xn, xv, xw⟩ := x
                    obtain ⟨zn, zv, zw⟩ := z
                    simp only at y1 z1 hwz
                    have hcall : ∀ n, Calls Tryd.prog 12 #[xv, zv] (wr.drewN n) fun e w'' => e = .returned (.bool true) ∧ ∃ n, w'' = wr.drewN n := fun n => by
                      refine (sameWords_any (wr.drewN n) xw zw xv zv HXW.out.1 HZW.out.1 HXW.out.2 HZW.out.2).mono ?_
                      rintro e w' ⟨rfl, n2, rfl⟩
                      rw [decide_eq_true hwz.symm]
                      exact ⟨rfl, n + n2, by rw [World.drewN_drewN]⟩
                    have HC := Lib.hid hcall
                    clear hcall hwz
                    go_upto_region 34 with fail
                    go_quiet ((go_at_call 12; exact HC.out _))
                    clear y1 z1
                    go_wp2_with fail
                    go_roundw
                    case rel => exact ⟨i + 1, by omega, by go_num, Lib.hid (drawn_on HW.out nq)⟩
                    case measure => simp [intOf]; omega
                  · have hi2 : ¬ (i : Int) < (us.length : Int) := by omega
                    go_wp2_with fail
                    go_ret
                    obtain ⟨m, rfl⟩ := HW.out
                    exact ⟨rfl, below_drewn H9.out m⟩
end Go.Proofs.YtpoihpehdlogbaaDoor
