/-
  QueueRoom: so many of a class may wait as was said, within 1 and 64; the other class takes no room of it. For every input, with no condition.
-/
import Derived.Test.YtfogihnjeaeifaaQueueOps
import Derived.LoopTactic
namespace Go.Proofs.Ytfogihnjeaeifaa
open Go.Conc Go.RowKit Go.ChangeShapes Go.WideShapes
/-- so many were put, of one class -/
def RI (B : Nat) (ur : Bool) (q n k : Nat) (s : List Int × List Int) (w w' : World) : Prop :=
  QI B w' q n s ∧ Below B w w' ∧ (if ur then s.1.length = min k n ∧ s.2 = [] else s.2.length = min k n ∧ s.1 = [])
theorem ri_step {B : Nat} {ur : Bool} {q n k : Nat} {s : List Int × List Int} {w w1 w2 : World} (h : RI B ur q n k s w w1) (x : Int) (hq : QI B w2 q n (qput n ur x s).2) (hb : Below B w1 w2) :
    RI B ur q n (k + 1) (qput n ur x s).2 w w2 := by
  obtain ⟨us, os⟩ := s
  obtain ⟨_, h2, h3⟩ := h
  refine ⟨hq, h2.trans hb, ?_⟩
  cases ur
  · obtain ⟨h4, rfl⟩ := h3
    unfold qput
    by_cases hc : os.length < n
    · simp only [hc, if_true]; simp at h4 ⊢; omega
    · simp only [hc, if_false]; simp at h4 ⊢; omega
  · obtain ⟨h4, rfl⟩ := h3
    unfold qput
    by_cases hc : us.length < n
    · simp only [hc, if_true]; simp at h4 ⊢; omega
    · simp only [hc, if_false]; simp at h4 ⊢; omega
theorem ri_put {B : Nat} {ur : Bool} {q n k : Nat} {s : List Int × List Int} {w w1 : World} (h : RI B ur q n k s w w1) (x : Int) : (qput n ur x s).1 = decide ((k : Int) < n) := by
  obtain ⟨us, os⟩ := s
  obtain ⟨_, _, h3⟩ := h
  cases ur
  · obtain ⟨h4, rfl⟩ := h3
    unfold qput
    simp only at h4
    by_cases hc : os.length < n
    · simp only [hc, if_true]; rw [eq_comm, decide_eq_true_eq]; omega
    · simp only [hc, if_false]; rw [eq_comm, decide_eq_false_iff_not]; omega
  · obtain ⟨h4, rfl⟩ := h3
    unfold qput
    simp only at h4
    by_cases hc : us.length < n
    · simp only [hc, if_true]; rw [eq_comm, decide_eq_true_eq]; omega
    · simp only [hc, if_false]; rw [eq_comm, decide_eq_false_iff_not]; omega
theorem ri_end {B : Nat} {ur : Bool} {q n : Nat} {s : List Int × List Int} {w w1 : World} (h : RI B ur q n 70 s w w1) (h1 : 1 ≤ n) (h64 : n ≤ 64) (x : Int) :
    (qput n (!ur) x s).1 = true ∧ (qput n (!ur) x s).2.1.length + (qput n (!ur) x s).2.2.length = n + 1 := by
  obtain ⟨us, os⟩ := s
  obtain ⟨_, _, h3⟩ := h
  cases ur
  · obtain ⟨h4, rfl⟩ := h3
    simp only at h4
    unfold qput
    have : (0 : Nat) < n := by omega
    simp [this]; omega
  · obtain ⟨h4, rfl⟩ := h3
    simp only at h4
    unfold qput
    have : (0 : Nat) < n := by omega
    simp [this]; omega
set_option maxHeartbeats 1000000 in
set_option maxRecDepth 100000 in
theorem room_walk (m : Int) (ur : Bool) (w : World) : Calls Try.prog 6 #[.int .i64 m, .bool ur] w fun e w' => e = .returned (.bool true) ∧ Below w.heap.size w w' := by
  obtain ⟨n, hn⟩ : ∃ n : Nat, min (max m 1) 64 = (n : Int) := ⟨(min (max m 1) 64).toNat, by omega⟩
  have h1 : 1 ≤ n := by omega
  have h64 : n ≤ 64 := by omega
  have HN := Lib.hid hn
  clear hn
  have hnil := fun (w : World) (p : Option Addr) => run_eql_pointer_nil (P := Try.prog) w 24 p (by kernel_rfl)
  go_enter Try.func6, Try.ntmps6
  go_wp2_with fail
  refine (head_walk _).mono ?_
  rintro e w1 ⟨rfl, hb1⟩
  go_wp2_with fail
  refine (new_walk m n _ h1 h64 HN.out).mono ?_
  rintro e w2 ⟨q, rfl, hq, hb2⟩
  have HI : Hid (RI w.heap.size ur q n 0 ([], []) w w2) := by
    refine ⟨hq.low hb1.size, hb1.trans (hb2.mono hb1.size), ?_⟩
    cases ur <;> simp
  clear hq hb1 hb2
  go_wp2_with fail
  all_goals
    have hn := HN.out
    (first | (have E : Hid ((n : Int) = 64) := Lib.hid (by omega)) | (have E : Hid ((n : Int) = 1) := Lib.hid (by omega)) | (have E : Hid ((n : Int) = m) := Lib.hid (by omega)))
    clear hn HN
    go_loopw [8] (fun i wr => ∃ (k : Nat) (s : List Int × List Int), k ≤ 70 ∧ i = .int .i64 k ∧ RI w.heap.size ur q n k s w wr) (fun i _ => 70 - (intOf i).toNat)
    case atStart => exact ⟨0, _, Nat.zero_le _, rfl, HI.out⟩
    case round =>
      clear HI
      obtain ⟨k, s, hk, rfl, hI⟩ := hrel
      have HI := Lib.hid hI
      clear hI
      by_cases hlt : k < 70
      · go_wp2_with fail
        refine (put_any _ q n s ur k _ HI.out.1).mono ?_
        rintro e w3 ⟨rfl, hq, hb, -⟩
        have hd := ri_put HI.out (k : Int)
        rw [E.out] at hd
        rw [hd]
        have HI2 := Lib.hid (ri_step HI.out (k : Int) hq hb)
        clear hd hq hb HI E
        generalize qput n ur (k : Int) s = r at *
        go_wp2_with fail
        all_goals
          go_roundw
          case rel => exact ⟨k + 1, _, by omega, by go_num, HI2.out⟩
          case measure => simp [intOf]; omega
      · obtain rfl : k = 70 := by omega
        go_wp2_with fail
        refine (put_any _ q n s (!ur) 1 _ HI.out.1).mono ?_
        rintro e w3 ⟨rfl, hq, hb, -⟩
        obtain ⟨hd, he⟩ := ri_end HI.out h1 h64 1
        rw [hd]
        have HB := Lib.hid (HI.out.2.1.trans hb)
        have HQ := Lib.hid hq
        have hs : (qput n (!ur) 1 s).2.1.length + (qput n (!ur) 1 s).2.2.length ≤ 1000 := by omega
        have hz : (((qput n (!ur) 1 s).2.1.length + (qput n (!ur) 1 s).2.2.length : Nat) : Int) = n + 1 := by omega
        rw [E.out] at hz
        have HS := Lib.hid hs
        have HZ := Lib.hid hz
        clear hd he hq hb hs hz HI
        generalize qput n (!ur) 1 s = r at *
        go_wp2_with fail
        refine (drain_any _ q n r.2 _ HQ.out HS.out).mono ?_
        rintro e w4 ⟨rfl, hq, hb, -⟩
        rw [HZ.out]
        have HB2 := Lib.hid (HB.out.trans hb)
        have HQ2 := Lib.hid hq
        clear hq hb HB HQ
        go_wp2_with fail
        refine (drain_any _ q n ([], []) _ HQ2.out (by simp)).mono ?_
        rintro e w5 ⟨rfl, hq, hb, -⟩
        have HB3 := Lib.hid (HB2.out.trans hb)
        clear hq hb HB2 HQ2
        go_wp2_with fail
        go_ret
        exact ⟨rfl, HB3.out⟩
set_option maxRecDepth 100000 in
theorem room_lifted (os : Os) (started : os.Started) (H : Type) (enc : TypeId × Value → H) :
    ReturnsInHanded {} Try.checked os 6 .any (Rows.queueRoomSpec.pre6 enc Try.prog Try.f6 Rows.queueRoomRow.domain false) (Rows.queueRoomSpec.post enc Try.prog Try.f6 false true false false) := by
  refine LawFrame.handed (C := Try.checked) (tb := 4) (by kernel_rfl) (by kernel_rfl) (by kernel_rfl) Try.underlying4 rfl (fun ds hd => ?_) own started (by kernel_rfl) Try.func6
    (ChangeSpec.witness6 (enc := enc) (C := Try.checked) false ⟨#[], #[.int .i64 0, .bool false], []⟩ 8 (by kernel_rfl) (by kernel_rfl) (by kernel_rfl) (by kernel_rfl)) ?_
  · rw [Try.params6] at hd
    match ds, hd with
    | [d1, d2], _ => rfl
  · intro W args ds before base hval hA hlt hsz
    rw [Try.params6] at hval hA
    obtain ⟨v0, vs0, d0, ds0, p0, q0, hargs, rfl, rfl, h0, r0⟩ := trodAll_cons hA
    obtain ⟨v1, vs1, d1, ds1, p1, q1, rfl, rfl, rfl, h1, r1⟩ := trodAll_cons r0
    obtain ⟨rfl, rfl, rfl⟩ := trodAll_nil r1
    obtain rfl : args = #[v0, v1] := by cases args; simp_all
    obtain ⟨m, rfl, rfl, rfl, w0⟩ := open_int Try.underlying3 (hval 0 3 v0 rfl rfl) h0
    obtain ⟨u, rfl, rfl, rfl⟩ := open_bool Try.underlying4 (hval 1 4 v1 rfl rfl) h1
    exact room_walk m u W
theorem room_holds : Rows.QueueRoomSaid :=
  OpenClaim.holds_of_wide 6 Try.f6 rfl rfl rfl rfl rfl rfl rfl ⟨rfl, rfl, rfl, rfl, rfl⟩ rfl rfl rfl rfl rfl (by kernel_rfl) Try.func6 (by kernel_rfl)
    (of_decide_eq_true (by kernel_rfl)) (by unfold Func.isWrapper; first | (rw [if_pos (by decide +kernel)]; kernel_rfl) | (rw [if_neg (by decide +kernel)]; exact ⟨rfl, rfl⟩))
    (fun os started H enc _ => room_lifted os started H enc)
#print axioms room_holds
end Go.Proofs.Ytfogihnjeaeifaa
