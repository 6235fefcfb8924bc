/-
  QueueKeeps: what is put is what is taken: of each class as many, and the same, whatever their order. For every input, with no condition.
-/
import Derived.Test.YtfogihnjeaeifaaQueueOps
import Derived.LoopTactic
import Derived.Deep.DeepCutAuto
import Derived.BigQuiet
namespace Go.Proofs.Ytfogihnjeaeifaa
open Go.Conc Go.RowKit Go.ChangeShapes Go.WideShapes
def tot (s : List Int × List Int) : Int := s.1.sum + s.2.sum
def cnt (s : List Int × List Int) : Nat := s.1.length + s.2.length
def Small (s : List Int × List Int) : Prop := (∀ x ∈ s.1, -999 ≤ x ∧ x ≤ 999) ∧ (∀ x ∈ s.2, -999 ≤ x ∧ x ≤ 999)
/-- what waits: its sum, and how many -/
def KI (B q : Nat) (s : List Int × List Int) (T : Int) (C : Nat) (w w' : World) : Prop :=
  QI B w' q 64 s ∧ Fits 64 s ∧ Small s ∧ (T = tot s ∧ C = cnt s) ∧ Below B w w'
theorem sum_le : ∀ l : List Int, (∀ x ∈ l, -999 ≤ x ∧ x ≤ 999) → -999 * (l.length : Int) ≤ l.sum ∧ l.sum ≤ 999 * (l.length : Int)
  | [], _ => by simp
  | x :: l, h => by
    have h1 := h x (by simp)
    have h2 := sum_le l (fun y hy => h y (by simp [hy]))
    simp only [List.sum_cons, List.length_cons]
    constructor <;> omega
theorem KI.le {B q C : Nat} {s : List Int × List Int} {T : Int} {w w' : World} (h : KI B q s T C w w') : C ≤ 128 ∧ -127872 ≤ T ∧ T ≤ 127872 ∧ (C = 0 → T = 0) := by
  obtain ⟨_, ⟨h1, h2⟩, ⟨h3, h4⟩, ⟨rfl, rfl⟩, _⟩ := h
  have a := sum_le s.1 h3
  have b := sum_le s.2 h4
  unfold cnt tot
  refine ⟨by omega, by omega, by omega, fun hz => ?_⟩
  have e1 : s.1.length = 0 := by omega
  have e2 : s.2.length = 0 := by omega
  rw [e1] at a; rw [e2] at b
  omega
theorem small_put {s : List Int × List Int} (h : Small s) (u : Bool) {x : Int} (hx : -999 ≤ x ∧ x ≤ 999) : Small (qput 64 u x s).2 := by
  obtain ⟨us, os⟩ := s
  obtain ⟨h1, h2⟩ := h
  unfold qput
  cases u
  · by_cases hc : os.length < 64
    · simp only [hc, if_true]
      refine ⟨h1, fun y hy => ?_⟩
      rcases List.mem_append.1 hy with hy | hy
      · exact h2 y hy
      · obtain rfl := List.mem_singleton.1 hy; exact hx
    · simp only [hc, if_false]; exact ⟨h1, h2⟩
  · by_cases hc : us.length < 64
    · simp only [hc, if_true]
      refine ⟨fun y hy => ?_, h2⟩
      rcases List.mem_append.1 hy with hy | hy
      · exact h1 y hy
      · obtain rfl := List.mem_singleton.1 hy; exact hx
    · simp only [hc, if_false]; exact ⟨h1, h2⟩
theorem put_cnt (s : List Int × List Int) (u : Bool) (x : Int) :
    ((qput 64 u x s).1 = true ∧ tot (qput 64 u x s).2 = tot s + x ∧ cnt (qput 64 u x s).2 = cnt s + 1) ∨ ((qput 64 u x s).1 = false ∧ (qput 64 u x s).2 = s) := by
  obtain ⟨us, os⟩ := s
  unfold qput tot cnt
  cases u
  · by_cases hc : os.length < 64
    · refine .inl ?_; simp only [hc, if_true, List.sum_append, List.sum_cons, List.sum_nil, List.length_append, List.length_cons, List.length_nil]; exact ⟨trivial, by omega, by omega⟩
    · refine .inr ?_; simp only [hc, if_false]; exact ⟨trivial, trivial⟩
  · by_cases hc : us.length < 64
    · refine .inl ?_; simp only [hc, if_true, List.sum_append, List.sum_cons, List.sum_nil, List.length_append, List.length_cons, List.length_nil]; exact ⟨trivial, by omega, by omega⟩
    · refine .inr ?_; simp only [hc, if_false]; exact ⟨trivial, trivial⟩
theorem take_cnt (s : List Int × List Int) :
    ((qtake s).1.2 = true ∧ 0 < cnt s ∧ tot (qtake s).2 = tot s - (qtake s).1.1 ∧ cnt (qtake s).2 = cnt s - 1) ∨ ((qtake s).1.2 = false ∧ cnt s = 0 ∧ (qtake s).2 = s) := by
  obtain ⟨us, os⟩ := s
  unfold tot cnt
  rcases us with _ | ⟨x, us⟩
  · rcases os with _ | ⟨x, os⟩
    · exact .inr ⟨rfl, rfl, rfl⟩
    · exact .inl ⟨rfl, by simp, by simp only [qtake, List.sum_cons, List.sum_nil]; omega, by simp [qtake]⟩
  · exact .inl ⟨rfl, by simp only [List.length_cons]; omega, by simp only [qtake, List.sum_cons]; omega, by simp only [qtake, List.length_cons]; omega⟩
theorem small_take {s : List Int × List Int} (h : Small s) : Small (qtake s).2 ∧ -999 ≤ (qtake s).1.1 ∧ (qtake s).1.1 ≤ 999 := by
  obtain ⟨us, os⟩ := s
  obtain ⟨h1, h2⟩ := h
  rcases us with _ | ⟨x, us⟩
  · rcases os with _ | ⟨x, os⟩
    · exact ⟨⟨h1, h2⟩, by decide, by decide⟩
    · exact ⟨⟨h1, fun y hy => h2 y (List.mem_cons_of_mem _ hy)⟩, h2 x (by simp)⟩
  · exact ⟨⟨fun y hy => h1 y (List.mem_cons_of_mem _ hy), h2⟩, h1 x (by simp)⟩
/-- Put -/
theorem kput (B q C : Nat) (s : List Int × List Int) (T x : Int) (u : Bool) (w w1 : World) (h : KI B q s T C w w1) (hx : -999 ≤ x ∧ x ≤ 999) :
    Calls Try.prog 15 #[.pointer (some ⟨q, 0, none⟩), .bool u, .int .i64 x] w1 fun e w' => ∃ r s', e = .returned (.bool r) ∧ (if r = true then KI B q s' (T + x) (C + 1) w w' else KI B q s' T C w w') := by
  obtain ⟨h1, h2, h3, ⟨rfl, rfl⟩, h4⟩ := h
  refine (put_any B q 64 s u x w1 h1).mono ?_
  rintro e w' ⟨rfl, h5, h6, -⟩
  rcases put_cnt s u x with ⟨e1, e2, e3⟩ | ⟨e1, e2⟩
  · refine ⟨_, (qput 64 u x s).2, rfl, ?_⟩
    rw [if_pos e1]
    exact ⟨h5, fits_put h2 u x, small_put h3 u hx, ⟨e2.symm, e3.symm⟩, h4.trans h6⟩
  · refine ⟨_, s, rfl, ?_⟩
    rw [if_neg (by rw [e1]; decide)]
    rw [e2] at h5
    exact ⟨h5, h2, h3, ⟨rfl, rfl⟩, h4.trans h6⟩
theorem ktake (B q C : Nat) (s : List Int × List Int) (T : Int) (w w1 : World) (h : KI B q s T C w w1) :
    Calls Try.prog 11 #[.pointer (some ⟨q, 0, none⟩)] w1 fun e w' => ∃ y s', e = .returned (.tuple #[.int .i64 y, .bool (decide (0 < C))]) ∧ -999 ≤ y ∧ y ≤ 999 ∧ (if 0 < C then KI B q s' (T - y) (C - 1) w w' else KI B q s' T C w w') := by
  obtain ⟨h1, h2, h3, ⟨rfl, rfl⟩, h4⟩ := h
  refine (take_any B q 64 s w1 h1).mono ?_
  rintro e w' ⟨rfl, h5, h6, -⟩
  have hs := small_take h3
  rcases take_cnt s with ⟨e1, e0, e2, e3⟩ | ⟨e1, e0, e2⟩
  · refine ⟨_, (qtake s).2, by rw [e1, decide_eq_true e0], hs.2.1, hs.2.2, ?_⟩
    rw [if_pos e0]
    exact ⟨h5, fits_take h2, hs.1, ⟨e2.symm, e3.symm⟩, h4.trans h6⟩
  · refine ⟨_, s, by rw [e1, decide_eq_false (by omega)], hs.2.1, hs.2.2, ?_⟩
    rw [if_neg (by omega)]
    rw [e2] at h5
    exact ⟨h5, h2, h3, ⟨rfl, rfl⟩, h4.trans h6⟩
theorem kdrain (B q C : Nat) (s : List Int × List Int) (T : Int) (w w1 : World) (h : KI B q s T C w w1) :
    Calls Try.prog 13 #[.pointer (some ⟨q, 0, none⟩)] w1 fun e w' => e = .returned (.int .i64 (C : Int)) ∧ KI B q ([], []) 0 0 w w' := by
  obtain ⟨h1, h2, h3, ⟨rfl, rfl⟩, h4⟩ := h
  refine (drain_any B q 64 s w1 h1 (by have := h2.1; have := h2.2; omega)).mono ?_
  rintro e w' ⟨rfl, h5, h6, -⟩
  exact ⟨rfl, h5, ⟨by simp, by simp⟩, ⟨by simp, by simp⟩, ⟨by simp [tot], by simp [cnt]⟩, h4.trans h6⟩
theorem kmany (B q C : Nat) (s : List Int × List Int) (T : Int) (w w1 : World) (h : KI B q s T C w w1) :
    Calls Try.prog 17 #[.pointer (some ⟨q, 0, none⟩)] w1 fun e w' => ∃ a b : Nat, e = .returned (.tuple #[.int .i64 a, .int .i64 b]) ∧ (a : Int) + (b : Int) = (C : Int) ∧ a ≤ 64 ∧ b ≤ 64 ∧ KI B q s T C w w' := by
  obtain ⟨h1, h2, h3, ⟨rfl, rfl⟩, h4⟩ := h
  refine (many_any B q 64 s w1 h1).mono ?_
  rintro e w' ⟨rfl, h5, h6, -⟩
  exact ⟨_, _, rfl, by unfold cnt; omega, h2.1, h2.2, h5, h2, h3, ⟨rfl, rfl⟩, h4.trans h6⟩
theorem tmod_b (a : Int) : -999 ≤ a.tmod 1000 ∧ a.tmod 1000 ≤ 999 := by
  rcases Int.le_total 0 a with h | h
  · rw [Int.tmod_eq_emod_of_nonneg h]; omega
  · have e : a.tmod 1000 = -((-a).tmod 1000) := by rw [Int.neg_tmod]; simp
    rw [e, Int.tmod_eq_emod_of_nonneg (by omega)]; omega
set_option maxHeartbeats 1000000 in
set_option maxRecDepth 100000 in
theorem keeps_walk (l : List Op) (v : Value) (w : World) (hl : l.length ≤ 1000) (h : OpsAt w l v) :
    Calls Try.prog 7 #[v] w fun e w' => e = .returned (.bool true) ∧ Below w.heap.size w w' := by
  have hv := h
  obtain ⟨A, c, rfl, hc, -⟩ := hv
  have H := Lib.hid h
  clear h
  have hnil := fun (w : World) (p : Option Addr) => run_eql_pointer_nil (P := Try.prog) w 24 p (by kernel_rfl)
  go_enter Try.func7, Try.ntmps7
  go_wp2_with fail
  refine (head_walk _).mono ?_
  rintro e w1 ⟨rfl, hb1⟩
  go_wp2_with fail
  refine (new_walk 64 64 _ (by omega) (by omega) (by decide)).mono ?_
  rintro e w2 ⟨q, rfl, hq, hb2⟩
  have hI : KI w.heap.size q ([], []) 0 0 w w2 := ⟨hq.low hb1.size, ⟨by simp, by simp⟩, ⟨by simp, by simp⟩, ⟨by simp [tot], by simp [cnt]⟩, hb1.trans (hb2.mono hb1.size)⟩
  have HI := Lib.hid hI
  clear hI hq hb1 hb2
  go_wp2_with fail
  go_loopw [5, 6, 7] (fun t n i wr => ∃ (k : Nat) (s : List Int × List Int) (T : Int) (C : Nat), k ≤ l.length ∧ i = .int .i64 k ∧ t = .int .i64 T ∧ n = .int .i64 (C : Int) ∧ KI w.heap.size q s T C w wr) (fun _ _ i _ => l.length - (intOf i).toNat)
  case atStart => exact ⟨0, _, 0, 0, Nat.zero_le _, rfl, rfl, rfl, HI.out⟩
  case round =>
    clear HI
    obtain ⟨k, s, T, C, hk, rfl, rfl, rfl, hI⟩ := hrel
    have HI := Lib.hid hI
    clear hI
    obtain ⟨hC, hT1, hT2, -⟩ := HI.out.le
    by_cases hlt : k < l.length
    · obtain ⟨o, hx⟩ : ∃ o, l[k]? = some o := ⟨_, List.getElem?_eq_getElem hlt⟩
      obtain ⟨bb, off', c', hv, hbl, hcell⟩ := H.out.at_ hx
      have e0 := hcell 0 _ rfl
      have e1 := hcell 1 _ rfl
      have e2 := hcell 2 _ rfl
      simp only [Nat.add_zero] at e0
      injection hv with hA e3 e4
      subst hA
      clear e3 e4 hcell hx
      have hbw := HI.out.2.2.2.2
      have h0 := (hbw.cell (p := ⟨bb, off' + k * 3, none⟩) hbl).trans e0
      have h1 := (hbw.cell (p := ⟨bb, off' + k * 3 + 1, none⟩) hbl).trans e1
      have h2 := (hbw.cell (p := ⟨bb, off' + k * 3 + 2, none⟩) hbl).trans e2
      clear e0 e1 e2 hbw
      go_upto_if 44 with fail
      go_cut [5, 6] (fun t n wx => ∃ (s' : List Int × List Int) (T' : Int) (C' : Nat), t = .int .i64 T' ∧ n = .int .i64 (C' : Int) ∧ KI w.heap.size q s' T' C' w wx)
      case first =>
        have hxb := tmod_b o.x
        generalize o.x.tmod 1000 = x at *
        by_cases h3 : o.what < 3
        · go_wp2_with fail
          refine (kput _ q C s T x o.urgent w _ HI.out hxb).mono ?_
          rintro e w3 ⟨r, s', rfl, hI⟩
          clear h0 h1 h2
          cases r
          · rw [if_neg (by decide)] at hI
            have HI2 := Lib.hid hI
            clear hI HI
            go_wp2_with fail
            go_meet
            exact ⟨s', T, C, rfl, rfl, HI2.out⟩
          · rw [if_pos rfl] at hI
            have HI2 := Lib.hid hI
            clear hI HI
            go_wp2_with fail
            go_meet
            exact ⟨s', T + x, C + 1, rfl, by go_num, HI2.out⟩
        · by_cases h5 : o.what = 5
          · have H5 : (o.what == 5) = true := by simp [h5]
            clear h5
            go_wp2_with fail
            refine (kdrain _ q C s T w _ HI.out).mono ?_
            rintro e w3 ⟨rfl, hI⟩
            clear h0 h1 h2
            have HI2 := Lib.hid hI
            clear hI HI
            go_wp2_with fail
            go_meet
            exact ⟨_, 0, 0, rfl, rfl, HI2.out⟩
          · have H5 : (o.what == 5) = false := by simp [h5]
            go_wp2_with fail
            refine (ktake _ q C s T w _ HI.out).mono ?_
            rintro e w3 ⟨y, s', rfl, hy1, hy2, hI⟩
            clear h0 h1 h2
            by_cases hz : 0 < C
            · rw [if_pos hz] at hI
              have HI2 := Lib.hid hI
              clear hI HI
              go_wp2_with fail
              go_meet
              exact ⟨s', T - y, C - 1, rfl, by go_num, HI2.out⟩
            · rw [if_neg hz] at hI
              have HI2 := Lib.hid hI
              clear hI HI
              go_wp2_with fail
              go_meet
              exact ⟨s', T, C, rfl, rfl, HI2.out⟩
      case rest =>
        obtain ⟨s', T', C', rfl, rfl, hI⟩ := hcut
        obtain ⟨hC', hT1', hT2', hz⟩ := hI.le
        have HI2 := Lib.hid hI
        clear hI HI h0 h1 h2 hC hT1 hT2
        go_wp2_with fail
        refine (kmany _ q C' s' T' w _ HI2.out).mono ?_
        rintro e w3 ⟨a, b, rfl, hab, ha, hb, hI⟩
        have HI3 := Lib.hid hI
        clear hI HI2
        by_cases hc0 : C' = 0
        · obtain rfl := hz hc0
          obtain rfl : a = 0 := by omega
          obtain rfl : b = 0 := by omega
          subst hc0
          clear hab hz
          go_wp2_with fail
          go_roundw
          case rel => exact ⟨k + 1, s', 0, 0, by omega, by go_num, rfl, rfl, HI3.out⟩
          case measure => simp [intOf]; omega
        · clear hz
          go_wp2_with fail
          go_roundw
          case rel => exact ⟨k + 1, s', T', C', by omega, by go_num, rfl, rfl, HI3.out⟩
          case measure => simp [intOf]; omega
    · go_wp2_with fail
      go_ret
      exact ⟨rfl, HI.out.2.2.2.2⟩
set_option maxRecDepth 100000 in
theorem keeps_big (A : Option Addr) (k c : Nat) (w : World) (hl : 1000 < k) :
    Calls Try.prog 7 #[.slice A k c] w fun e w' => e = .returned (.bool true) ∧ Below w.heap.size w w' := by
  have hnil := fun (w : World) (p : Option Addr) => run_eql_pointer_nil (P := Try.prog) w 24 p (by kernel_rfl)
  have hnn := fun (w : World) (p : Option Addr) => run_neq_pointer_nil (P := Try.prog) w 24 p (by kernel_rfl)
  go_enter Try.func7, Try.ntmps7
  go_wp2_with fail
  refine (head_walk _).mono ?_
  rintro e w1 ⟨rfl, hb1⟩
  go_wp2_with fail
  refine (new_walk 64 64 _ (by omega) (by omega) (by decide)).mono ?_
  rintro e w2 ⟨q, rfl, hq, hb2⟩
  have HB := Lib.hid (hb1.trans (hb2.mono hb1.size))
  clear hq hb1 hb2
  go_wp2_with fail
  go_ret
  exact ⟨rfl, HB.out⟩
set_option maxRecDepth 100000 in
theorem keeps_lifted (os : Os) (started : os.Started) (H : Type) (enc : TypeId × Value → H) :
    ReturnsInHanded {} Try.checked os 7 .any (Rows.queueKeepsSpec.pre6 enc Try.prog Try.f7 Rows.queueKeepsRow.domain false) (Rows.queueKeepsSpec.post enc Try.prog Try.f7 false true false false) := by
  refine LawFrame.handed (C := Try.checked) (tb := 4) (by kernel_rfl) (by kernel_rfl) (by kernel_rfl) Try.underlying4 rfl (fun ds hd => ?_) own started (by kernel_rfl) Try.func7
    (ChangeSpec.witness6 (enc := enc) (C := Try.checked) false ⟨#[], #[.slice none 0 0], []⟩ 8 (by kernel_rfl) (by kernel_rfl) (by kernel_rfl) (by kernel_rfl)) ?_
  · rw [Try.params7] at hd
    match ds, hd with
    | [d1], _ => rfl
  · intro W args ds before base hval hA hlt hsz
    rw [Try.params7] at hval hA
    obtain ⟨v0, vs0, d0, ds0, p0, q0, hargs, rfl, rfl, h0, r0⟩ := trodAll_cons hA
    obtain ⟨rfl, rfl, rfl⟩ := trodAll_nil r0
    obtain rfl : args = #[v0] := by cases args; simp_all
    obtain ⟨l, hl, _⟩ := open_ops (hval 0 22 v0 rfl rfl) h0
    rcases Nat.lt_or_ge 1000 l.length with h5 | h5
    · obtain ⟨A, c, rfl, hc, -⟩ := hl
      exact keeps_big A _ c W h5
    · exact keeps_walk l v0 W h5 hl
theorem keeps_holds : Rows.QueueKeepsSaid :=
  OpenClaim.holds_of_wide 7 Try.f7 rfl rfl rfl rfl rfl rfl rfl ⟨rfl, rfl, rfl, rfl, rfl⟩ rfl rfl rfl rfl rfl (by kernel_rfl) Try.func7 (by kernel_rfl)
    (of_decide_eq_true (by kernel_rfl)) (by unfold Func.isWrapper; first | (rw [if_pos (by decide +kernel)]; kernel_rfl) | (rw [if_neg (by decide +kernel)]; exact ⟨rfl, rfl⟩))
    (fun os started H enc _ => keeps_lifted os started H enc)
#print axioms keeps_holds
end Go.Proofs.Ytfogihnjeaeifaa
