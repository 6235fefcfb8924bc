/-
  QueueAhead: what is taken, to the end, are first the urgent ones, then the others, each class in the order in which it came. For every input, with no condition.
-/
import Derived.Test.YtfogihnjeaeifaaQueueRows
import Derived.LoopTactic
import Derived.Deep.DeepCutAuto
import Derived.BigQuiet
import Derived.StillTailTactics
namespace Go.Proofs.Ytfogihnjeaeifaa
open Go.Conc Go.RowKit Go.ChangeShapes Go.WideShapes
/-- a queue, and beside it two rows of numbers -/
def AI (B q : Nat) (s : List Int × List Int) (us os : List Int) (v5 v6 : Value) (w w' : World) : Prop :=
  (QI B w' q 64 s ∧ w'.ownsRow B 3 1 v5 us.length (us.map nV) ∧ w'.ownsRow B 3 1 v6 os.length (os.map nV) ∧ (v5.ownBlock = none ∨ v5.ownBlock ≠ v6.ownBlock)) ∧ Below B w w'
theorem AI.queue {B q : Nat} {s s' : List Int × List Int} {us os : List Int} {v5 v6 : Value} {w w1 w2 : World} (h : AI B q s us os v5 v6 w w1) (hq : QI B w2 q 64 s') (hb : Below B w1 w2) (hc : Cells w1 w2) :
    AI B q s' us os v5 v6 w w2 := ⟨⟨hq, own_cells h.1.2.1 hc, own_cells h.1.2.2.1 hc, h.1.2.2.2⟩, h.2.trans hb⟩
theorem AI.drew {B q : Nat} {s : List Int × List Int} {us os : List Int} {v5 v6 : Value} {w w1 : World} (h : AI B q s us os v5 v6 w w1) : AI B q s us os v5 v6 w w1.drew := ⟨⟨h.1.1.drew, h.1.2⟩, h.2.drew⟩
theorem AI.app5 {B q : Nat} {s : List Int × List Int} {us os : List Int} {x : Int} {v5 v6 v' : Value} {w w1 w2 : World} {o : Obj} (h : AI B q s us os v5 v6 w w1) (hB : B ≤ w1.heap.size)
    (ho : w2.ownsRow B 3 1 v' (us.length + 1) (us.map nV ++ [nV x])) (hg : (w1.alloc o).grownBy w2 v5.ownBlock) (hat : v'.ownBlock = v5.ownBlock ∨ v'.ownBlock = some (w1.alloc o).heap.size) :
    AI B q s (us ++ [x]) os v' v6 w w2 := by
  obtain ⟨⟨h1, h2, h3, h4⟩, h5⟩ := h
  refine ⟨⟨(h1.others (Others.alloc 1 w1 o) (by decide)).others (Others.grown (t := 1) (h2.alloc o) hg) (by decide), by rw [List.length_append, List.map_append]; exact ho, (h3.alloc o).kept hg (own_flip h4), own_apart (h3.alloc o) h4 hat⟩, ?_⟩
  exact (h5.alloc hB o).grown hg (by simp; omega) (fun k hk => ((h2.alloc o).lt k hk).1)
theorem AI.app6 {B q : Nat} {s : List Int × List Int} {us os : List Int} {x : Int} {v5 v6 v' : Value} {w w1 w2 : World} {o : Obj} (h : AI B q s us os v5 v6 w w1) (hB : B ≤ w1.heap.size)
    (ho : w2.ownsRow B 3 1 v' (os.length + 1) (os.map nV ++ [nV x])) (hg : (w1.alloc o).grownBy w2 v6.ownBlock) (hat : v'.ownBlock = v6.ownBlock ∨ v'.ownBlock = some (w1.alloc o).heap.size) :
    AI B q s us (os ++ [x]) v5 v' w w2 := by
  obtain ⟨⟨h1, h2, h3, h4⟩, h5⟩ := h
  refine ⟨⟨(h1.others (Others.alloc 1 w1 o) (by decide)).others (Others.grown (t := 1) (h3.alloc o) hg) (by decide), (h2.alloc o).kept hg h4, by rw [List.length_append, List.map_append]; exact ho, own_flip (own_apart (h2.alloc o) (own_flip h4) hat)⟩, ?_⟩
  exact (h5.alloc hB o).grown hg (by simp; omega) (fun k hk => ((h3.alloc o).lt k hk).1)
/-- what is still to be taken -/
def TI (B q : Nat) (L : List Int) (j : Nat) (v8 : Value) (w w' : World) : Prop :=
  (∃ s : List Int × List Int, s.1 ++ s.2 = L.drop j ∧ QI B w' q 64 s) ∧ w'.ownsRow B 3 1 v8 L.length (L.map nV) ∧ Below B w w'
theorem take_head {s : List Int × List Int} {L : List Int} {j : Nat} {x : Int} (h : s.1 ++ s.2 = L.drop j) (hx : L[j]? = some x) : (qtake s).1 = (x, true) ∧ (qtake s).2.1 ++ (qtake s).2.2 = L.drop (j + 1) := by
  obtain ⟨hj, hx⟩ := List.getElem?_eq_some_iff.1 hx
  rw [List.drop_eq_getElem_cons hj, hx] at h
  obtain ⟨us, os⟩ := s
  rcases us with _ | ⟨y, us⟩
  · rcases os with _ | ⟨y, os⟩
    · simp at h
    · simp only [List.nil_append, List.cons.injEq] at h
      obtain ⟨rfl, h⟩ := h
      exact ⟨rfl, by simpa [qtake] using h⟩
  · simp only [List.cons_append, List.cons.injEq] at h
    obtain ⟨rfl, h⟩ := h
    exact ⟨rfl, by simpa [qtake] using h⟩
theorem ti_take (B q : Nat) (L : List Int) (j : Nat) (x : Int) (v8 : Value) (w w1 : World) (h : TI B q L j v8 w w1) (hx : L[j]? = some x) :
    Calls Try.prog 11 #[.pointer (some ⟨q, 0, none⟩)] w1 fun e w' => e = .returned (.tuple #[.int .i64 x, .bool true]) ∧ TI B q L (j + 1) v8 w w' := by
  obtain ⟨⟨s, hs, hq⟩, hv, hb⟩ := h
  refine (take_any B q 64 s w1 hq).mono ?_
  rintro e w' ⟨rfl, h1, h2, h3⟩
  obtain ⟨e1, e2⟩ := take_head hs hx
  exact ⟨by rw [e1], ⟨⟨_, e2, h1⟩, own_cells hv h3, hb.trans h2⟩⟩
theorem ti_end (B q : Nat) (L : List Int) (v8 : Value) (w w1 : World) (h : TI B q L L.length v8 w w1) :
    Calls Try.prog 11 #[.pointer (some ⟨q, 0, none⟩)] w1 fun e w' => e = .returned (.tuple #[.int .i64 0, .bool false]) ∧ Below B w w' := by
  obtain ⟨⟨s, hs, hq⟩, hv, hb⟩ := h
  rw [List.drop_length] at hs
  obtain ⟨us, os⟩ := s
  simp only [List.append_eq_nil_iff] at hs
  obtain ⟨rfl, rfl⟩ := hs
  refine (take_any B q 64 ([], []) w1 hq).mono ?_
  rintro e w' ⟨rfl, h1, h2, h3⟩
  exact ⟨rfl, hb.trans h2⟩
theorem app_is {w : World} {base n m : Nat} {a b : List Int} {v : Value} (hn : n = a.length) (hm : m = b.length) (h : w.ownsRow base 3 1 v (0 + n + m) (([] ++ a.map nV) ++ b.map nV)) : w.ownsRow base 3 1 v (a ++ b).length ((a ++ b).map nV) := by
  subst hn hm
  rw [List.length_append, List.map_append]
  simpa using h
/-- both rows, one behind the other -/
theorem ti_start {B q : Nat} {us os : List Int} {v5 v6 v3 v4 : Value} {w w1 w3 w4 : World} {o : Obj} (h : AI B q (us, os) us os v5 v6 w w1) (hB : B ≤ w1.heap.size) (ho : (w1.alloc o).ownsRow B 3 1 (.slice (some ⟨w1.heap.size, 0, none⟩) 0 0) 0 [])
    (hg3 : (w1.alloc o).grownBy w3 (Value.slice (some ⟨w1.heap.size, 0, none⟩) 0 0).ownBlock) (ho3 : w3.ownsRow B 3 1 v3 (0 + us.length) ([] ++ us.map nV)) (hg4 : w3.grownBy w4 v3.ownBlock)
    (ho4 : w4.ownsRow B 3 1 v4 (0 + us.length + os.length) (([] ++ us.map nV) ++ os.map nV)) : TI B q (us ++ os) 0 v4 w w4 := by
  refine ⟨⟨(us, os), by simp, ?_⟩, app_is rfl rfl ho4, ?_⟩
  · exact (((h.1.1.others (Others.alloc 1 w1 o) (by decide)).others (Others.grown (t := 1) ho hg3) (by decide)).others (Others.grown (t := 1) ho3 hg4) (by decide))
  · have h3 : Below B w w3 := (h.2.alloc hB o).grown hg3 (by simp; omega) (fun k hk => (ho.lt k hk).1)
    exact h3.grown hg4 (by have := hg3.size; simp at this; omega) (fun k hk => (ho3.lt k hk).1)
set_option maxHeartbeats 1000000 in
set_option maxRecDepth 100000 in
theorem ahead_walk (l : List Op) (v : Value) (w : World) (hl : l.length ≤ 1000) (h : OpsAt w l v) :
    Calls Try.prog 4 #[v] w fun e w' => e = .returned (.bool true) ∧ Below w.heap.size w w' := by
  obtain ⟨i0, hi0, hz0, hz1, hz2⟩ := info_parts int_info
  have hv := h
  obtain ⟨A, c, rfl, hc, -⟩ := hv
  have H := Lib.hid h
  clear h
  have hnil := fun (w : World) (p : Option Addr) => run_eql_pointer_nil (P := Try.prog) w 24 p (by kernel_rfl)
  go_enter Try.func4, Try.ntmps4
  go_wp2_with fail
  refine (head_walk _).mono ?_
  rintro e w1 ⟨rfl, hb1⟩
  go_wp2_with fail
  refine (new_walk 64 64 _ (by omega) (by omega) (by decide)).mono ?_
  rintro e w2 ⟨q, rfl, hq, hb2⟩
  have hI : AI w.heap.size q ([], []) [] [] (.slice none 0 0) (.slice none 0 0) w w2 := ⟨⟨hq.low hb1.size, World.ownsRow_nil _ _ _ _, World.ownsRow_nil _ _ _ _, .inl rfl⟩, hb1.trans (hb2.mono hb1.size)⟩
  have HI := Lib.hid hI
  clear hI hq hb1 hb2
  go_wp2_with fail
  go_loopw [5, 6, 7] (fun v5 v6 i wr => ∃ (k : Nat) (us os : List Int), k ≤ l.length ∧ i = .int .i64 k ∧ us.length ≤ 64 ∧ os.length ≤ 64 ∧ AI w.heap.size q (us, os) us os v5 v6 w wr) (fun _ _ i _ => l.length - (intOf i).toNat)
  case atStart => exact ⟨0, [], [], Nat.zero_le _, rfl, by simp, by simp, HI.out⟩
  case round =>
    clear HI
    obtain ⟨k, us, os, hk, rfl, hu, ho, hI⟩ := hrel
    have HI := Lib.hid hI
    clear hI
    by_cases hlt : k < l.length
    · obtain ⟨o, hx⟩ : ∃ o, l[k]? = some o := ⟨_, List.getElem?_eq_getElem hlt⟩
      obtain ⟨bb, off', c', hv, hbl, hcell⟩ := H.out.at_ hx
      have e1 := hcell 1 _ rfl
      have e2 := hcell 2 _ rfl
      injection hv with hA e3 e4
      subst hA
      have E1 := Lib.hid e1
      have E2 := Lib.hid e2
      clear e3 e4 hcell hx e1 e2
      have h1 := (HI.out.2.cell (p := ⟨bb, off' + k * 3 + 1, none⟩) hbl).trans E1.out
      have h2 := (HI.out.2.cell (p := ⟨bb, off' + k * 3 + 2, none⟩) hbl).trans E2.out
      go_upto_region 10 with fail
      go_still_tail 11, (by kernel_rfl)
      have HI1 := Lib.hid HI.out.drew
      change wpList _ _ _ _ _ wr.drew
      clear h1 h2 HI
      generalize wr.drew = wa at *
      go_wp2_with fail
      refine (put_any _ q 64 (us, os) o.urgent o.x wa HI1.out.1.1).mono ?_
      rintro e w3 ⟨rfl, hq, hb, hcs⟩
      have HI2 := Lib.hid (HI1.out.queue hq hb hcs)
      clear hq hb hcs HI1
      have h1 := (HI2.out.2.cell (p := ⟨bb, off' + k * 3 + 1, none⟩) hbl).trans E1.out
      have h2 := (HI2.out.2.cell (p := ⟨bb, off' + k * 3 + 2, none⟩) hbl).trans E2.out
      have hsz := HI2.out.2.size
      unfold qput at *
      obtain ⟨wh, ou, ox, oh⟩ := o
      simp only at *
      have HX := Lib.hid (one_nums [ox])
      rcases ou with _ | _
      · by_cases hcc : os.length < 64
        · simp only [hcc, if_true] at HI2 ⊢
          go_wp2_with (at_builtin; refine Words.wpList_append_any _ rfl (.tmp 59) (.tmp 65) _ rfl w.heap.size 3 i0 _ 1 8 Try.underlying37 hi0 hz0 hz1 hz2 rfl (by omega) u6 os.length (os.map nV) rfl (HI2.out.1.2.2.1.alloc _) (w3.heap.size + 1) (some ⟨w3.heap.size, 0, none⟩) 1 1 [nV ox] rfl (reads_one _ _ rfl ox) HX.out (by simp only [maxLen]; omega) (by omega) (by simp; omega) ?_; intro v' w4 ho' hg hat; have HI3 := Lib.hid (HI2.out.app6 hsz ho' hg hat); clear ho' hg hat HI2)
          go_roundw
          case rel => exact ⟨k + 1, us, os ++ [ox], by omega, by go_num, hu, by simp; omega, HI3.out⟩
          case measure => simp [intOf]; omega
        · simp only [hcc, if_false] at HI2 ⊢
          go_wp2_with fail
          go_roundw
          case rel => exact ⟨k + 1, us, os, by omega, by go_num, hu, ho, HI2.out⟩
          case measure => simp [intOf]; omega
      · by_cases hcc : us.length < 64
        · simp only [hcc, if_true] at HI2 ⊢
          go_wp2_with (at_builtin; refine Words.wpList_append_any _ rfl (.tmp 51) (.tmp 57) _ rfl w.heap.size 3 i0 _ 1 8 Try.underlying37 hi0 hz0 hz1 hz2 rfl (by omega) u5 us.length (us.map nV) rfl (HI2.out.1.2.1.alloc _) (w3.heap.size + 1) (some ⟨w3.heap.size, 0, none⟩) 1 1 [nV ox] rfl (reads_one _ _ rfl ox) HX.out (by simp only [maxLen]; omega) (by omega) (by simp; omega) ?_; intro v' w4 ho' hg hat; have HI3 := Lib.hid (HI2.out.app5 hsz ho' hg hat); clear ho' hg hat HI2)
          go_roundw
          case rel => exact ⟨k + 1, us ++ [ox], os, by omega, by go_num, by simp; omega, ho, HI3.out⟩
          case measure => simp [intOf]; omega
        · simp only [hcc, if_false] at HI2 ⊢
          go_wp2_with fail
          go_roundw
          case rel => exact ⟨k + 1, us, os, by omega, by go_num, hu, ho, HI2.out⟩
          case measure => simp [intOf]; omega
    · obtain ⟨A5, c5, e5⟩ := own_form HI.out.1.2.1
      obtain ⟨A6, c6, e6⟩ := own_form HI.out.1.2.2.1
      subst e5 e6
      have hsz := HI.out.2.size
      have R5 := Lib.hid (Words.Reads.of_own HI.out.1.2.1)
      have R6 := Lib.hid (Words.Reads.of_own HI.out.1.2.2.1)
      have HU := Lib.hid (one_nums us)
      have HO := Lib.hid (one_nums os)
      have HN := Lib.hid (lit_nil wr _ w.heap.size rfl hsz)
      go_wp2_with (first | (at_builtin; refine Words.wpList_append_any _ rfl (.tmp 67) (.tmp 68) _ rfl w.heap.size 3 i0 _ 1 8 Try.underlying37 hi0 hz0 hz1 hz2 rfl (by omega) (.slice (some ⟨wr.heap.size, 0, none⟩) 0 0) 0 [] rfl HN.out wr.heap.size A5 us.length c5 (us.map nV) rfl (R5.out.alloc (Nat.le_refl _) _) HU.out (by simp only [maxLen]; omega) (by omega) (by simp; omega) ?_; intro v3 w3 ho3 hg3 hat3; have hs3 : wr.heap.size + 1 ≤ w3.heap.size := (by have := hg3.size; simp at this; omega); have HO3 := Lib.hid ho3; have HG3 := Lib.hid hg3; clear ho3 hg3 hat3) | (at_builtin; refine Words.wpList_append_any _ rfl (.tmp 69) (.tmp 70) _ rfl w.heap.size 3 i0 _ 1 8 Try.underlying37 hi0 hz0 hz1 hz2 rfl (by omega) v3 (0 + us.length) ([] ++ us.map nV) rfl HO3.out wr.heap.size A6 os.length c6 (os.map nV) rfl ((R6.out.alloc (Nat.le_refl _) _).grown HG3.out (by simp) (fun g hg => by simp [Value.ownBlock] at hg; omega)) HO.out (by simp only [maxLen]; omega) (by omega) (by omega) ?_; intro v4 w4 ho4 hg4 hat4; have HT := Lib.hid (ti_start HI.out hsz HN.out HG3.out HO3.out hg4 ho4); clear ho4 hg4 hat4 HO3 HG3 HI R5 R6 HU HO HN hs3))
      obtain ⟨A8, c8, e8⟩ := own_form HT.out.2.1
      subst e8
      have hL : (us ++ os).length ≤ 128 := by simp; omega
      generalize us ++ os = L at *
      go_loopw [9] (fun i wx => ∃ j : Nat, j ≤ L.length ∧ i = .int .i64 j ∧ TI w.heap.size q L j (.slice A8 L.length c8) w wx) (fun i _ => L.length - (intOf i).toNat)
      case atStart => exact ⟨0, Nat.zero_le _, rfl, HT.out⟩
      case round =>
        clear HT
        obtain ⟨j, hj, rfl, hT⟩ := hrel
        have HT := Lib.hid hT
        clear hT
        by_cases hjl : j < L.length
        · obtain ⟨x, hx⟩ : ∃ x, L[j]? = some x := ⟨_, List.getElem?_eq_getElem hjl⟩
          have HX := Lib.hid hx
          clear hx
          go_wp2_with fail
          refine (ti_take _ q L j x _ w _ HT.out HX.out).mono ?_
          rintro e w5 ⟨rfl, hT⟩
          have HT2 := Lib.hid hT
          clear hT HT
          obtain ⟨bb, off', c', hv, hbl, hcell⟩ := (LawFrame.RowsAt.of_own (m := 1) (f := fun x => [nV x]) (l := L) (fun _ => rfl) (by omega) (by rw [LawFrame.flat_one]; exact HT2.out.2.1)).at_ HX.out
          have hc8 := own_cap HT2.out.2.1
          injection hv with hA e1 e2
          subst hA
          have h1 := hcell 0 _ rfl
          simp only [Nat.mul_one, Nat.add_zero, nV] at h1
          clear e1 e2 hcell
          go_wp2_with fail
          go_roundw
          case rel => exact ⟨j + 1, by omega, by go_num, HT2.out⟩
          case measure => simp [intOf]; omega
        · obtain rfl : j = L.length := by omega
          go_wp2_with fail
          refine (ti_end _ q L _ w _ HT.out).mono ?_
          rintro e w5 ⟨rfl, hb⟩
          have HB := Lib.hid hb
          clear hb HT
          have hu2 : decide ((us.length : Int) ≤ 64) = true := decide_eq_true (by omega)
          have ho2 : decide ((os.length : Int) ≤ 64) = true := decide_eq_true (by omega)
          go_wp2_with fail
          go_ret
          exact ⟨rfl, HB.out⟩
set_option maxRecDepth 100000 in
theorem ahead_big (A : Option Addr) (k c : Nat) (w : World) (hl : 1000 < k) :
    Calls Try.prog 4 #[.slice A k c] w fun e w' => e = .returned (.bool true) ∧ Below w.heap.size w w' := by
  have hnil := fun (w : World) (p : Option Addr) => run_eql_pointer_nil (P := Try.prog) w 24 p (by kernel_rfl)
  have hnn := fun (w : World) (p : Option Addr) => run_neq_pointer_nil (P := Try.prog) w 24 p (by kernel_rfl)
  go_enter Try.func4, Try.ntmps4
  go_wp2_with fail
  refine (head_walk _).mono ?_
  rintro e w1 ⟨rfl, hb1⟩
  go_wp2_with fail
  refine (new_walk 64 64 _ (by omega) (by omega) (by decide)).mono ?_
  rintro e w2 ⟨q, rfl, hq, hb2⟩
  have HB := Lib.hid (hb1.trans (hb2.mono hb1.size))
  clear hq hb1 hb2
  go_wp2_with fail
  go_ret
  exact ⟨rfl, HB.out⟩
set_option maxRecDepth 100000 in
theorem ahead_lifted (os : Os) (started : os.Started) (H : Type) (enc : TypeId × Value → H) :
    ReturnsInHanded {} Try.checked os 4 .any (Rows.queueAheadSpec.pre6 enc Try.prog Try.f4 Rows.queueAheadRow.domain false) (Rows.queueAheadSpec.post enc Try.prog Try.f4 false true false false) := by
  refine LawFrame.handed (C := Try.checked) (tb := 4) (by kernel_rfl) (by kernel_rfl) (by kernel_rfl) Try.underlying4 rfl (fun ds hd => ?_) own started (by kernel_rfl) Try.func4
    (ChangeSpec.witness6 (enc := enc) (C := Try.checked) false ⟨#[], #[.slice none 0 0], []⟩ 8 (by kernel_rfl) (by kernel_rfl) (by kernel_rfl) (by kernel_rfl)) ?_
  · rw [Try.params4] at hd
    match ds, hd with
    | [d1], _ => rfl
  · intro W args ds before base hval hA hlt hsz
    rw [Try.params4] at hval hA
    obtain ⟨v0, vs0, d0, ds0, p0, q0, hargs, rfl, rfl, h0, r0⟩ := trodAll_cons hA
    obtain ⟨rfl, rfl, rfl⟩ := trodAll_nil r0
    obtain rfl : args = #[v0] := by cases args; simp_all
    obtain ⟨l, hl, _⟩ := open_ops (hval 0 22 v0 rfl rfl) h0
    rcases Nat.lt_or_ge 1000 l.length with h5 | h5
    · obtain ⟨A, c, rfl, hc, -⟩ := hl
      exact ahead_big A _ c W h5
    · exact ahead_walk l v0 W h5 hl
theorem ahead_holds : Rows.QueueAheadSaid :=
  OpenClaim.holds_of_wide 4 Try.f4 rfl rfl rfl rfl rfl rfl rfl ⟨rfl, rfl, rfl, rfl, rfl⟩ rfl rfl rfl rfl rfl (by kernel_rfl) Try.func4 (by kernel_rfl)
    (of_decide_eq_true (by kernel_rfl)) (by unfold Func.isWrapper; first | (rw [if_pos (by decide +kernel)]; kernel_rfl) | (rw [if_neg (by decide +kernel)]; exact ⟨rfl, rfl⟩))
    (fun os started H enc _ => ahead_lifted os started H enc)
#print axioms ahead_holds
end Go.Proofs.Ytfogihnjeaeifaa
