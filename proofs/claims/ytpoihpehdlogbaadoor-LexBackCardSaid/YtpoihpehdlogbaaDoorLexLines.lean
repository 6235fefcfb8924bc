/-
  THE WALK of lex.Lines: the lines of a text, or what is wrong, and where.
-/
import Derived.Test.YtpoihpehdlogbaaDoorLexLns
namespace Go.Proofs.YtpoihpehdlogbaaDoor
open Go.RowKit Go.Shelf
attribute [local go_sem] Oper.semAt_some
/-- what Lines hands back -/
def LinesIs (l : List UInt8) (o : Option (Int × Int)) (w : World) (e : Ending) (w' : World) : Prop :=
  match o with
  | some (k, no) => e = .returned (.tuple #[.slice none 0 0, .int .i64 k, .int .i64 no]) ∧ Below w.heap.size w w'
  | none => ∃ A n c, e = .returned (.tuple #[.slice A n c, .int .i64 0, .int .i64 0]) ∧ LnsAt w' w.heap.size (toldL (textL l)) n (.slice A n c) ∧ Below w.heap.size w w'
theorem words_bad_any (w : World) (l : List UInt8) (no k : Int) (hs : l.length ≤ 1000000) (ht : Tab w) (hk : wordsE l = some k) :
    Calls Tryd.prog 22 #[.string (toB l), .int .i64 no] w fun e w' => e = .panicked (faultC k no) ∧ Below w.heap.size w w' := by
  refine (words_any w (toB l) no (by rw [toB_size]; omega) ht).mono ?_
  intro e w' h
  unfold WordsIs at h
  rw [toB_list, hk] at h
  exact h
theorem words_fine_any (w : World) (l : List UInt8) (no : Int) (hs : l.length ≤ 1000000) (ht : Tab w) (hk : wordsE l = none) :
    Calls Tryd.prog 22 #[.string (toB l), .int .i64 no] w fun e w' => e = .returned (.slice (some ⟨w.heap.size, 0, none⟩) (Lib.fields l).length (Lib.fields l).length) ∧ w.alloc (.cells ((Lib.fields l).map strV).toArray 9) = w' := by
  refine (words_any w (toB l) no (by rw [toB_size]; omega) ht).mono ?_
  intro e w' h
  unfold WordsIs at h
  rw [toB_list, hk] at h
  exact h
theorem caught_start (l : List UInt8) (w W0 : World) (hW : (((w.alloc (.cells #[.slice none 0 0] 22)).alloc (.cells #[.int .i64 0] 30)).alloc (.cells #[.int .i64 0] 3)).alloc (.cells #[.string (toB l)] 9) = W0) :
    W0.heap.size = w.heap.size + 4 ∧ CI w W0.heap.size [] W0 ∧ W0.heap[w.heap.size + 1 + 1 + 1]? = some (.cells #[.string (toB l)] 9 (0, 0)) := by
  subst hW
  refine ⟨by simp, ⟨⟨.slice none 0 0, 0, ?_, LnsAt.nil _ _⟩, ?_, ?_, ?_, rfl⟩, ?_⟩
  · exact (((Boxed.new w 22 (.slice none 0 0)).alloc _).alloc _).alloc _
  · have := Boxed.new (w.alloc (.cells #[.slice none 0 0] 22)) 30 (.int .i64 0)
    rw [World.size_alloc] at this
    exact (this.alloc _).alloc _
  · have := Boxed.new ((w.alloc (.cells #[.slice none 0 0] 22)).alloc (.cells #[.int .i64 0] 30)) 3 (.int .i64 0)
    rw [World.size_alloc, World.size_alloc] at this
    exact this.alloc _
  · exact ((((Below.refl _ _).alloc (Nat.le_refl _) _).alloc (by simp) _).alloc (by simp; omega) _).alloc (by simp; omega) _
  · have := Boxed.new (((w.alloc (.cells #[.slice none 0 0] 22)).alloc (.cells #[.int .i64 0] 30)).alloc (.cells #[.int .i64 0] 3)) 9 (.string (toB l))
    rw [World.size_alloc, World.size_alloc, World.size_alloc] at this
    exact this
theorem heap_setCells {w W : World} {D : Nat} {t0 t1 t2 : TypeId} {v0 v1 v2 : Value} {o : List Deferred} (h : W.heap[D]? = some (.deferred (some o))) (h0 : Boxed W w.heap.size t0 v0) (h1 : Boxed W (w.heap.size + 1) t1 v1) (h2 : Boxed W (w.heap.size + 1 + 1) t2 v2) (x y z : Value) :
    (((W.setCell ⟨w.heap.size, 0, none⟩ x).setCell ⟨w.heap.size + 1, 0, none⟩ y).setCell ⟨w.heap.size + 1 + 1, 0, none⟩ z).heap[D]? = some (.deferred (some o)) := by
  rw [heap_setCell_other _ _ D _ (fun e => ?_), heap_setCell_other _ _ D _ (fun e => ?_), heap_setCell_other _ _ D _ (fun e => ?_)]
  · exact h
  · simp only at e; subst e; rw [show W.heap[_]? = _ from h0] at h; cases h
  · simp only at e; subst e; rw [show W.heap[_]? = _ from h1] at h; cases h
  · simp only at e; subst e; rw [show W.heap[_]? = _ from h2] at h; cases h
theorem results_three {P : Program} {fn : Func} {p q r : Tmp} {t1 t2 t3 : TypeId} (h : fn.results = #[.cell p t1, .cell q t2, .cell r t3]) (tmps : Array Value) (w : World) {a b c : Addr} {x y z : Value}
    (hp : tmps.getD p undef = .pointer (some a)) (hq : tmps.getD q undef = .pointer (some b)) (hr : tmps.getD r undef = .pointer (some c)) (hx : w.cell? a = some x) (hy : w.cell? b = some y) (hz : w.cell? c = some z)
    (h1 : ∀ w, (isAgg t1).run P w = .ok false w) (h2 : ∀ w, (isAgg t2).run P w = .ok false w) (h3 : ∀ w, (isAgg t3).run P w = .ok false w) : (results fn tmps).run P w = .ok (.tuple #[x, y, z]) w := by
  have hp' : tmps[p]?.getD undef = .pointer (some a) := by simpa using hp
  have hq' : tmps[q]?.getD undef = .pointer (some b) := by simpa using hq
  have hr' : tmps[r]?.getD undef = .pointer (some c) := by simpa using hr
  simp [results, h, hp', hq', hr', asAddr, go_sem, hx, hy, hz, h1, h2, h3]
set_option maxRecDepth 100000 in
set_option maxHeartbeats 2000000 in
theorem caught_any (w : World) (l : List UInt8) (hl : l.length ≤ 1000000) (ht : Tab w) :
    Calls Tryd.prog 18 #[.string (toB l)] w (LinesIs l (firstBad (itemsOf l)) w) := by
  have hmf : ∀ (fn : Fn) (first cap : Array Value) (w : World), (Instr.makeFunc fn first cap).run Tryd.prog w = .ok (.func fn first cap) w := fun _ _ _ _ => rfl
  refine Ranged.calls_of_wpAt (n := 3) Tryd.func18 rfl ?_
  simp only [Tryd.ntmps18, List.size_toArray, List.length_cons, List.length_nil, Nat.reduceAdd, Nat.reduceSub, Array.replicate_succ, Array.replicate_zero, List.push_toArray, List.append_toArray, List.nil_append, List.cons_append]
  refine Ranged.wpAt_seq_in (n := 3) ?_
  gi_wp2
  refine Ranged.wpAt_seq_in (n := 3) ?_
  gi_wp2
  refine Ranged.wpAt_seq (Ranged.wpAt_seq_in (n := 3) ?_)
  gi_wp2_with (refine ⟨trivial, ?_⟩; gi_at_call 21; refine (callsIn_wide.2 (numbered_any (toB l) _)).mono ?_; rintro e w1 ⟨rfl, rfl⟩)
  obtain ⟨W0, hW⟩ : ∃ W0, (((w.alloc (.cells #[.slice none 0 0] 22)).alloc (.cells #[.int .i64 0] 30)).alloc (.cells #[.int .i64 0] 3)).alloc (.cells #[.string (toB l)] 9) = W0 := ⟨_, rfl⟩
  obtain ⟨hz, hI0, hbx⟩ := caught_start l w W0 hW
  have hsm := itemsOf_small l
  try simp only [World.size_alloc]
  rw [hW]
  clear hW
  refine Ranged.wpAt_block ?_
  refine Ranged.wp_range (n := 3) (α := Nat × List UInt8) (gf := 24) (lb := #[.pointer (some ⟨w.heap.size + 1 + 1 + 1, 0, none⟩)]) Tryd.func18 rfl (enters_of Tryd.func24 (by kernel_rfl) rfl)
    (numbered_iter l hl (w.heap.size + 1 + 1 + 1) W0 hbx 3) (fun _ => rfl) (CI w W0.heap.size) (CB w l) (ci_own w _ _ (by omega)) (cb_own w l _ (by omega)) hI0
    (fun x => ⟨#[.string (toB l), undef, .pointer (some ⟨w.heap.size, 0, none⟩), .pointer (some ⟨w.heap.size + 1, 0, none⟩), .pointer (some ⟨w.heap.size + 1 + 1, 0, none⟩), .int .i64 (x.1 : Int), .string (toB x.2), undef,
      .func (.func 20) #[] #[.pointer (some ⟨w.heap.size, 0, none⟩), .pointer (some ⟨w.heap.size + 1, 0, none⟩), .pointer (some ⟨w.heap.size + 1 + 1, 0, none⟩)], .string (toB l),
      .func (.func 24) #[] #[.pointer (some ⟨w.heap.size + 1 + 1 + 1, 0, none⟩)], .int .i64 (x.1 : Int), .string (toB x.2), undef, undef, undef, undef, undef, undef, undef, undef, undef, undef, undef, undef, undef], []⟩) ?assign ?body ?done ?panic
  case assign =>
    rintro lp x W K hK
    simp only [encItem]
    gi_wp2
    exact hK
  case body =>
    rintro lp pre x W hWz hi ⟨post, hp⟩
    have hT : Tab W := ht.below hi.2.2.2.1 (Nat.le_refl _)
    have hxl : x.2.length ≤ 1000000 := by
      have := hsm.2 x (by rw [hp]; simp)
      omega
    have hpl : pre.length ≤ 1000000 := by
      have h1 := hsm.1
      rw [hp, List.length_append, List.length_cons] at h1
      omega
    obtain ⟨no, t⟩ := x
    simp only at hxl
    cases hwe : wordsE t with
    | some k =>
      have HB := Lib.hid (words_bad_any W t (no : Int) k hxl hT hwe)
      have HI := Lib.hid hi
      have HP := Lib.hid hp
      have HW := Lib.hid hwe
      clear hi hp hwe hI0 hbx
      gi_wp2_with (refine ⟨trivial, ?_⟩; gi_at_call 22; refine (CallsIn.inRound lp (callsIn_wide.2 HB.out)).mono ?_; rintro e w1 ⟨rfl, hb1⟩)
      exact ⟨rfl, keeps_of_below hb1 _, ci_bad HI.out HP.out HW.out hb1⟩
    | none =>
      have HC0 := words_fine_any W t (no : Int) hxl hT hwe
      have hfl := (wordsE_none hwe).1
      obtain ⟨F, hF⟩ : ∃ F, F = Lib.fields t := ⟨_, rfl⟩
      rw [← hF] at HC0 hfl
      have HC := Lib.hid HC0
      have HI := Lib.hid hi
      have HW := Lib.hid hwe
      by_cases hF0 : F = []
      · have hl0 : ¬ (0 : Int) < (F.length : Int) := by rw [hF0]; simp
        have HF0 := Lib.hid (show Lib.fields t = [] by rw [← hF, hF0])
        clear hi hp hwe hI0 hbx hF hF0 HC0
        gi_wp2_with (refine ⟨trivial, ?_⟩; gi_at_call 22; refine (CallsIn.inRound lp (callsIn_wide.2 HC.out)).mono ?_; rintro e w1 ⟨rfl, hw1⟩; have hb1 : Below W.heap.size W w1 := (by rw [← hw1]; exact (Below.refl _ _).alloc (Nat.le_refl _) _); have HB1 := Lib.hid hb1; clear hb1 hw1)
        exact ⟨keeps_of_below HB1.out _, ci_skip HI.out HW.out HF0.out HB1.out⟩
      · have hl0 : (0 : Int) < (F.length : Int) := by
          have := List.length_pos_iff.2 hF0
          omega
        obtain ⟨i0, hi0, hz0, hz1, hz2⟩ := line_parts
        obtain ⟨⟨v, n, hv, xs, hn, htold, hown, hws⟩, -, -, -, -⟩ := hi
        have hn1 : n ≤ 1000000 := by
          have h1 := gather_len pre
          have h2 : xs.length = (gather pre).length := by rw [← List.length_map (f := Ln.told), htold]; simp [toldL]
          omega
        have HV := Lib.hid hv
        have HTO := Lib.hid htold
        have HOW := Lib.hid hown
        have HWS := Lib.hid hws
        have HF := Lib.hid hF
        have HN := Lib.hid hn
        have HF0 := Lib.hid (show ¬ Lib.fields t = [] by rw [← hF]; exact hF0)
        have hzB : w.heap.size + 1 + 1 < W0.heap.size := by omega
        have h63 : n + 1 ≤ maxLen := by simp only [maxLen]; omega
        have h32 : (n + 1) * 32 ≤ 140737488355328 := by omega
        clear hp hwe hI0 hbx hF hF0 HC0 hv htold hown hws hn hz
        gi_wp2_with (first | (refine ⟨trivial, ?_⟩; gi_at_call 22; refine (CallsIn.inRound lp (callsIn_wide.2 HC.out)).mono ?_; rintro e w1 ⟨rfl, hw1⟩; have hb1 : Below W.heap.size W w1 := (by rw [← hw1]; exact (Below.refl _ _).alloc (Nat.le_refl _) _); have k0 : w1.cell? ⟨w.heap.size, 0, none⟩ = some v := (boxed_below HV.out hb1).cell; have HW1 := Lib.hid hw1; have HB1 := Lib.hid hb1; have hlw : W.heap.size ≤ w1.heap.size := hb1.size; clear hb1 hw1) | (gi_at_builtin; refine wpListIn_append_own _ rfl _ _ 22 rfl W0.heap.size 27 i0 _ 2 32 Tryd.underlying22 hi0 hz0 hz1 hz2 rfl (by decide) v n _ rfl ((own_below HOW.out HB1.out).alloc _) ⟨w1.heap.size, 0, none⟩ 1 1 [.int .i64 (no : Int), .slice (some ⟨W.heap.size, 0, none⟩) F.length F.length] rfl rfl (World.news_of_block (heap_alloc_new w1 _)) (one_line _ _ _ _) h63 h32 (by simp; omega) ?_; intro v' w2 ho hg _; obtain ⟨A', c', rfl⟩ := own_form ho; have hbx2 := ci_box hzB HV.out HOW.out HB1.out hg; have k2 := hbx2.cell; have f2 := hbx2.frozen; have HO := Lib.hid ho; have HG := Lib.hid hg; clear ho hg hbx2 k0))
        have ho := HO.out
        have hg := HG.out
        have hw1 := HW1.out
        rw [HF.out] at ho hw1
        exact ci_more (x := (no, t)) hzB HI.out HV.out xs HN.out HTO.out HOW.out HWS.out HW.out HF0.out hw1 ho hg W0.heap.size (by omega)
  case done =>
    rintro D W hD hi hK
    have HI := Lib.hid hi
    have HK := Lib.hid hK
    have HZ := Lib.hid hz
    obtain ⟨⟨v, n, hv, hL⟩, h3, h4, h5, h6⟩ := hi
    obtain ⟨A, c, rfl⟩ : ∃ A c, v = .slice A n c := by obtain ⟨xs, -, -, ho, -⟩ := hL; exact own_form ho
    have k0 : W.cell? ⟨w.heap.size, 0, none⟩ = some (.slice A n c) := hv.cell
    have k1 : W.cell? ⟨w.heap.size + 1, 0, none⟩ = some (.int .i64 0) := h3.cell
    have k2 : W.cell? ⟨w.heap.size + 1 + 1, 0, none⟩ = some (.int .i64 0) := h4.cell
    have z0 : W.frozen? ⟨w.heap.size, 0, none⟩ = false := hv.frozen
    have z1 : W.frozen? ⟨w.heap.size + 1, 0, none⟩ = false := h3.frozen
    have z2 : W.frozen? ⟨w.heap.size + 1 + 1, 0, none⟩ = false := h4.frozen
    have HV := Lib.hid hv
    have HL := Lib.hid hL
    have H3 := Lib.hid h3
    have H4 := Lib.hid h4
    have H5 := Lib.hid h5
    have H6 := Lib.hid h6
    clear hI0 hbx hv hL h3 h4 h5 h6 hK hz
    simp only [Exit.inBlock, Exit.then]
    refine Ranged.wpAt_of (n := 3) ?_
    gi_wp2
    have hK2 := heap_setCells HK.out HV.out H3.out H4.out (.slice A n c) (.int .i64 0) (.int .i64 0)
    have hI2 := ci_again HI.out HV.out
    generalize ((W.setCell ⟨w.heap.size, 0, none⟩ (.slice A n c)).setCell ⟨w.heap.size + 1, 0, none⟩ (.int .i64 0)).setCell ⟨w.heap.size + 1 + 1, 0, none⟩ (.int .i64 0) = W2 at *
    have hI3 := (ci_own w W0.heap.size D (by have := HZ.out; omega)).putObj (.deferred none) hI2 (Nat.le_refl _) hK2 rfl
    refine ⟨by simp, .inl ⟨_, _, rfl, run_takeDeferred hK2, ?_⟩⟩
    refine ⟨by simp, .inr ⟨fun h => absurd h (by decide), .func 20, #[.pointer (some ⟨w.heap.size, 0, none⟩), .pointer (some ⟨w.heap.size + 1, 0, none⟩), .pointer (some ⟨w.heap.size + 1 + 1, 0, none⟩)], 20, #[.pointer (some ⟨w.heap.size, 0, none⟩), .pointer (some ⟨w.heap.size + 1, 0, none⟩), .pointer (some ⟨w.heap.size + 1 + 1, 0, none⟩)], rfl, ?_, fun _ _ => trivial, ?_⟩⟩
    · simp [invoke, go_sem]
    refine (catch_none w.heap.size _ 2).mono ?_
    rintro e u' w' ⟨rfl, rfl, rfl⟩
    have hI4 := (ci_own w W0.heap.size D (by have := HZ.out; omega)).alloc (.cells #[.int .i64 0, .int .i64 0] 51) hI3
    generalize (W2.putObj D (.deferred none)).alloc (.cells #[.int .i64 0, .int .i64 0] 51) = W4 at *
    obtain ⟨⟨v4, n4, hv4, hL4⟩, h34, h44, h54, h64⟩ := hI4
    obtain ⟨A4, c4, rfl⟩ : ∃ A c, v4 = .slice A n4 c := by obtain ⟨xs, -, -, ho, -⟩ := hL4; exact own_form ho
    refine ⟨_, results_three rfl _ _ rfl rfl rfl hv4.cell h34.cell h44.cell Tryd.isAgg22 Tryd.isAgg30 Tryd.isAgg3, ?_⟩
    unfold LinesIs
    rw [h64]
    exact ⟨A4, n4, c4, rfl, hL4.mono (by have := HZ.out; omega), h54⟩
  case panic =>
    rintro D ch W hD hb hK
    have HZ := Lib.hid hz
    obtain ⟨k, no, v, rfl, h1, h2, h3, h4, h5⟩ := hb
    have hB := (cb_own w l D (by omega)).putObj (.deferred none) ⟨k, no, v, rfl, h1, h2, h3, h4, h5⟩ (Nat.le_refl _) hK rfl
    obtain ⟨k', no', v', hch, h1', h2', h3', h4', h5'⟩ := hB
    simp only [Exit.inBlock, Exit.then]
    refine ⟨by simp, .inl ⟨_, _, rfl, run_takeDeferred hK, ?_⟩⟩
    refine ⟨by simp, .inr ⟨fun h => absurd h (by decide), .func 20, #[.pointer (some ⟨w.heap.size, 0, none⟩), .pointer (some ⟨w.heap.size + 1, 0, none⟩), .pointer (some ⟨w.heap.size + 1 + 1, 0, none⟩)], 20, #[.pointer (some ⟨w.heap.size, 0, none⟩), .pointer (some ⟨w.heap.size + 1, 0, none⟩), .pointer (some ⟨w.heap.size + 1 + 1, 0, none⟩)], rfl, ?_, fun _ _ => trivial, ?_⟩⟩
    · simp [invoke, go_sem]
    refine (catch_fault w.heap.size k no _ _ _ _ h2' h3' h4' 2).mono ?_
    rintro e u' w' ⟨rfl, rfl, ht0, ht1, ht2, htb⟩
    refine ⟨_, results_three rfl _ _ rfl rfl rfl ht0 ht1 ht2 Tryd.isAgg22 Tryd.isAgg30 Tryd.isAgg3, ?_⟩
    unfold LinesIs
    rw [h1]
    exact ⟨rfl, h5'.trans htb⟩
set_option maxRecDepth 100000 in
theorem lines_any (w : World) (l : List UInt8) (hl : l.length ≤ 1000000) (ht : Tab w) :
    Calls Tryd.prog 11 #[.string (toB l)] w (LinesIs l (textE l) w) := by
  by_cases h : 4096 < l.length
  · have HE : Hid (textE l = some (2, 0)) := Lib.hid (by unfold textE; rw [if_pos h])
    have hs : (4096 : Int) < ((toB l).size : Int) := by rw [toB_size]; omega
    go_enter Tryd.func11, Tryd.ntmps11
    go_wp2_with fail
    go_ret3
    unfold LinesIs
    rw [HE.out]
    exact ⟨rfl, Below.refl _ _⟩
  · have HE : Hid (textE l = firstBad (itemsOf l)) := Lib.hid (by unfold textE; rw [if_neg h])
    have hs : ¬ (4096 : Int) < ((toB l).size : Int) := by rw [toB_size]; omega
    rw [HE.out]
    unfold LinesIs
    rcases e : firstBad (itemsOf l) with _ | ⟨k, no⟩
    · have HC := caught_any w l hl ht
      unfold LinesIs at HC
      rw [e] at HC
      have HC' := Lib.hid HC
      clear HC ht h HE
      go_enter Tryd.func11, Tryd.ntmps11
      go_wp2_with (go_at_call 18; refine (HC'.out).mono ?_; rintro e w1 ⟨A, n, c, rfl, h1, h2⟩; have H1 := Lib.hid h1; have H2 := Lib.hid h2; clear h1 h2)
      go_ret3
      exact ⟨A, n, c, rfl, H1.out, H2.out⟩
    · have HC := caught_any w l hl ht
      unfold LinesIs at HC
      rw [e] at HC
      have HC' := Lib.hid HC
      clear HC ht h HE
      go_enter Tryd.func11, Tryd.ntmps11
      go_wp2_with (go_at_call 18; refine (HC'.out).mono ?_; rintro e w1 ⟨rfl, h2⟩; have H2 := Lib.hid h2; clear h2)
      go_ret3
      exact ⟨rfl, H2.out⟩
end Go.Proofs.YtpoihpehdlogbaaDoor
