/-
  QueueNever: whatever is put and taken, no other one goes while an urgent one waits. For every input, with no condition.
-/
import Derived.Test.YtfogihnjeaeifaaQueueOps
import Derived.LoopTactic
import Derived.StillTailTactics
import Derived.Deep.RegionHeld3
import Derived.Deep.DeepCutAuto
import Derived.BigQuiet
namespace Go.Proofs.Ytfogihnjeaeifaa
open Go.Conc Go.RowKit Go.ChangeShapes Go.WideShapes
/-- so many urgent ones, and so many others, wait -/
def NI (B q n : Nat) (a b : Nat) (w w' : World) : Prop :=
  a ≤ n ∧ b ≤ n ∧ QAt B 53 w' q n (List.replicate a (.bool true)) (List.replicate b (.bool false)) ∧ Below B w w'
def nput (n : Nat) (u : Bool) (a b : Nat) : Nat × Nat := match u with
  | true => (if a < n then a + 1 else a, b)
  | false => (a, if b < n then b + 1 else b)
theorem nput_any (B q n a b : Nat) (u : Bool) (w w1 : World) (h : NI B q n a b w w1) :
    Calls Try.prog 20 #[.pointer (some ⟨q, 0, none⟩), .bool u, .bool u] w1 fun e w' => (∃ r, e = .returned (.bool r)) ∧ NI B q n (nput n u a b).1 (nput n u a b).2 w w' := by
  obtain ⟨h1, h2, hq, hb⟩ := h
  unfold nput
  cases u
  · by_cases hc : b < n
    · simp only [hc, if_true]
      refine (bput_o_room B q n _ _ (.bool false) w1 hq (by simpa using hc)).mono ?_
      rintro e w' ⟨rfl, h3, h4⟩
      exact ⟨⟨_, rfl⟩, h1, by omega, by rw [List.replicate_succ']; exact h3, hb.trans h4⟩
    · simp only [hc, if_false]
      refine (bput_o_full B q n _ _ (.bool false) w1 hq (by simpa using hc)).mono ?_
      rintro e w' ⟨rfl, h3, h4⟩
      exact ⟨⟨_, rfl⟩, h1, h2, h3, hb.trans h4⟩
  · by_cases hc : a < n
    · simp only [hc, if_true]
      refine (bput_u_room B q n _ _ (.bool true) w1 hq (by simpa using hc)).mono ?_
      rintro e w' ⟨rfl, h3, h4⟩
      exact ⟨⟨_, rfl⟩, by omega, h2, by rw [List.replicate_succ']; exact h3, hb.trans h4⟩
    · simp only [hc, if_false]
      refine (bput_u_full B q n _ _ (.bool true) w1 hq (by simpa using hc)).mono ?_
      rintro e w' ⟨rfl, h3, h4⟩
      exact ⟨⟨_, rfl⟩, h1, h2, h3, hb.trans h4⟩
theorem nmany (B q n a b : Nat) (w w1 : World) (h : NI B q n a b w w1) :
    Calls Try.prog 21 #[.pointer (some ⟨q, 0, none⟩)] w1 fun e w' => e = .returned (.tuple #[.int .i64 a, .int .i64 b]) ∧ NI B q n a b w w' := by
  obtain ⟨h1, h2, hq, hb⟩ := h
  have h0 := bmany B q n _ _ w1 hq
  simp only [List.length_replicate] at h0
  exact h0.mono fun _ _ ⟨h3, h4, h5⟩ => ⟨h3, h1, h2, h4, hb.trans h5⟩
theorem ntake (B q n a b : Nat) (w w1 : World) (h : NI B q n a b w w1) :
    Calls Try.prog 22 #[.pointer (some ⟨q, 0, none⟩)] w1 fun e w' => e = .returned (.tuple #[.bool (decide (0 < a)), .bool (decide (0 < a + b))]) ∧ NI B q n (a - 1) (if a = 0 then b - 1 else b) w w' := by
  obtain ⟨h1, h2, hq, hb⟩ := h
  rcases a with _ | a
  · rcases b with _ | b
    · exact (btake_n B q n w1 hq).mono fun _ _ ⟨h3, h4, h5⟩ => ⟨h3, h1, h2, h4, hb.trans h5⟩
    · refine (btake_o B q n (List.replicate b (.bool false)) (.bool false) w1 hq).mono fun _ _ ⟨h3, h4, h5⟩ => ⟨?_, h1, ?_, h4, hb.trans h5⟩
      · rw [h3]; simp
      · show b ≤ n; omega
  · refine (btake_u B q n (List.replicate a (.bool true)) _ (.bool true) w1 hq).mono fun _ _ ⟨h3, h4, h5⟩ => ⟨?_, by omega, ?_, ?_, hb.trans h5⟩
    · rw [h3]; simp; omega
    · rw [if_neg (by omega)]; exact h2
    · rw [if_neg (by omega)]; exact h4
theorem below_drewn {B : Nat} {w w' : World} (h : Below B w w') (n : Nat) : Below B w (w'.drewN n) := ⟨h.os, h.tape, h.output, h.size, h.block⟩
theorem NI.drewN {B q n a b : Nat} {w w' : World} (h : NI B q n a b w w') (k : Nat) : NI B q n a b w (w'.drewN k) := ⟨h.1, h.2.1, h.2.2.1.same rfl, below_drewn h.2.2.2 k⟩
theorem NI.drew {B q n a b : Nat} {w w' : World} (h : NI B q n a b w w') : NI B q n a b w w'.drew := ⟨h.1, h.2.1, h.2.2.1.same rfl, h.2.2.2.drew⟩
set_option maxHeartbeats 1000000 in
set_option maxRecDepth 100000 in
theorem never_walk (m : Nat) (hm : m ≤ 255) (l : List Op) (v : Value) (w : World) (hl : l.length ≤ 1000) (h : OpsAt w l v) :
    Calls Try.prog 5 #[.int .u8 m, v] w fun e w' => e = .returned (.bool true) ∧ Below w.heap.size w w' := by
  obtain ⟨n, hn⟩ : ∃ n : Nat, min (max (m : Int) 1) 64 = (n : Int) := ⟨(min (max (m : Int) 1) 64).toNat, by omega⟩
  have h1 : 1 ≤ n := by omega
  have h64 : n ≤ 64 := by omega
  have HN := Lib.hid hn
  clear hn
  have hv := h
  obtain ⟨A, c, rfl, hc, -⟩ := hv
  have H := Lib.hid h
  clear h
  have hnil := fun (w : World) (p : Option Addr) => run_eql_pointer_nil (P := Try.prog) w 39 p (by kernel_rfl)
  go_enter Try.func5, Try.ntmps5
  go_wp2_with fail
  refine (head_walk _).mono ?_
  rintro e w1 ⟨rfl, hb1⟩
  go_wp2_with fail
  refine (bnew_walk m n _ h1 h64 HN.out).mono ?_
  rintro e w2 ⟨q, rfl, hq, hb2⟩
  have hI : NI w.heap.size q n 0 0 w w2 := ⟨Nat.zero_le _, Nat.zero_le _, hq.low hb1.size, hb1.trans (hb2.mono hb1.size)⟩
  have HI := Lib.hid hI
  clear hI hq hb1 hb2 HN
  go_wp2_with fail
  go_loopw [7] (fun i wr => ∃ k a b : Nat, k ≤ l.length ∧ i = .int .i64 k ∧ NI w.heap.size q n a b w wr) (fun i _ => l.length - (intOf i).toNat)
  case atStart => exact ⟨0, 0, 0, Nat.zero_le _, rfl, HI.out⟩
  case round =>
    clear HI
    obtain ⟨k, a, b, hk, rfl, hI⟩ := hrel
    have HI := Lib.hid hI
    clear hI
    by_cases hlt : k < l.length
    · obtain ⟨o, hx⟩ : ∃ o, l[k]? = some o := ⟨_, List.getElem?_eq_getElem hlt⟩
      obtain ⟨bb, off', c', hv, hbl, hcell⟩ := H.out.at_ hx
      have e0 := hcell 0 _ rfl
      have e1 := hcell 1 _ rfl
      simp only [Nat.add_zero] at e0
      injection hv with hA e2 e3
      subst hA
      have E1 := Lib.hid e1
      clear e2 e3 hcell hx e1
      have h0 := (HI.out.2.2.2.cell (p := ⟨bb, off' + k * 3, none⟩) hbl).trans e0
      clear e0
      by_cases h3 : o.what < 3
      · go_upto_region 9 with fail
        have e1 := (HI.out.2.2.2.cell (p := ⟨bb, off' + k * 3 + 1, none⟩) hbl).trans E1.out
        clear h0
        go_still_tail 11, (by kernel_rfl)
        have HI1 := Lib.hid HI.out.drew
        change wpList _ _ _ _ _ wr.drew
        clear e1 HI
        generalize wr.drew = wa at *
        go_wp2_with fail
        refine (nput_any _ q n a b o.urgent w _ HI1.out).mono ?_
        rintro e w3 ⟨⟨r, rfl⟩, hI⟩
        have HI2 := Lib.hid hI
        clear hI HI1
        generalize nput n o.urgent a b = ab at *
        obtain ⟨a', b'⟩ := ab
        go_wp2_with fail
        go_roundw
        case rel => exact ⟨k + 1, a', b', by omega, by go_num, HI2.out⟩
        case measure => simp [intOf]; omega
      · have hs1 : a ≤ n := HI.out.1
        have hs2 : b ≤ n := HI.out.2.1
        go_wp2_with fail
        refine (nmany _ q n a b w _ HI.out).mono ?_
        rintro e w3 ⟨rfl, hI⟩
        have HI2 := Lib.hid hI
        clear hI HI h0
        go_wp2_with fail
        refine (ntake _ q n a b w _ HI2.out).mono ?_
        rintro e w4 ⟨rfl, hI⟩
        have HI3 := Lib.hid hI
        clear hI HI2
        go_wp2_with fail
        all_goals
          go_roundw
          case rel => exact ⟨k + 1, _, _, by omega, by go_num, HI3.out⟩
          case measure => simp [intOf]; omega
    · go_wp2_with fail
      go_ret
      exact ⟨rfl, HI.out.2.2.2⟩
set_option maxRecDepth 100000 in
theorem never_big (m : Nat) (hm : m ≤ 255) (A : Option Addr) (k c : Nat) (w : World) (hl : 1000 < k) :
    Calls Try.prog 5 #[.int .u8 m, .slice A k c] w fun e w' => e = .returned (.bool true) ∧ Below w.heap.size w w' := by
  obtain ⟨n, hn⟩ : ∃ n : Nat, min (max (m : Int) 1) 64 = (n : Int) := ⟨(min (max (m : Int) 1) 64).toNat, by omega⟩
  have h1 : 1 ≤ n := by omega
  have h64 : n ≤ 64 := by omega
  have HN := Lib.hid hn
  clear hn
  have hnil := fun (w : World) (p : Option Addr) => run_eql_pointer_nil (P := Try.prog) w 39 p (by kernel_rfl)
  have hnn := fun (w : World) (p : Option Addr) => run_neq_pointer_nil (P := Try.prog) w 39 p (by kernel_rfl)
  go_enter Try.func5, Try.ntmps5
  go_wp2_with fail
  refine (head_walk _).mono ?_
  rintro e w1 ⟨rfl, hb1⟩
  go_wp2_with fail
  refine (bnew_walk m n _ h1 h64 HN.out).mono ?_
  rintro e w2 ⟨q, rfl, hq, hb2⟩
  have HB := Lib.hid (hb1.trans (hb2.mono hb1.size))
  clear hq hb1 hb2 HN
  go_wp2_with fail
  go_ret
  exact ⟨rfl, HB.out⟩
set_option maxRecDepth 100000 in
theorem never_lifted (os : Os) (started : os.Started) (H : Type) (enc : TypeId × Value → H) :
    ReturnsInHanded {} Try.checked os 5 .any (Rows.queueNeverSpec.pre6 enc Try.prog Try.f5 Rows.queueNeverRow.domain false) (Rows.queueNeverSpec.post enc Try.prog Try.f5 false true false false) := by
  refine LawFrame.handed (C := Try.checked) (tb := 4) (by kernel_rfl) (by kernel_rfl) (by kernel_rfl) Try.underlying4 rfl (fun ds hd => ?_) own started (by kernel_rfl) Try.func5
    (ChangeSpec.witness6 (enc := enc) (C := Try.checked) false ⟨#[], #[.int .u8 0, .slice none 0 0], []⟩ 8 (by kernel_rfl) (by kernel_rfl) (by kernel_rfl) (by kernel_rfl)) ?_
  · rw [Try.params5] at hd
    match ds, hd with
    | [d1, d2], _ => rfl
  · intro W args ds before base hval hA hlt hsz
    rw [Try.params5] at hval hA
    obtain ⟨v0, vs0, d0, ds0, p0, q0, hargs, rfl, rfl, h0, r0⟩ := trodAll_cons hA
    obtain ⟨v1, vs1, d1, ds1, p1, q1, rfl, rfl, rfl, h1, r1⟩ := trodAll_cons r0
    obtain ⟨rfl, rfl, rfl⟩ := trodAll_nil r1
    obtain rfl : args = #[v0, v1] := by cases args; simp_all
    obtain ⟨m, rfl, rfl, rfl, w0⟩ := open_int Try.underlying5 (hval 0 5 v0 rfl rfl) h0
    obtain ⟨l, hl, _⟩ := open_ops (hval 1 22 v1 rfl rfl) h1
    obtain ⟨k, rfl⟩ : ∃ k : Nat, m = (k : Int) := ⟨m.toNat, by have := bounds_u8 w0; omega⟩
    have hk : k ≤ 255 := by have := bounds_u8 w0; omega
    rcases Nat.lt_or_ge 1000 l.length with h5 | h5
    · obtain ⟨A, c, rfl, hc, -⟩ := hl
      exact never_big k hk A _ c W h5
    · exact never_walk k hk l v1 W h5 hl
theorem never_holds : Rows.QueueNeverSaid :=
  OpenClaim.holds_of_wide 5 Try.f5 rfl rfl rfl rfl rfl rfl rfl ⟨rfl, rfl, rfl, rfl, rfl⟩ rfl rfl rfl rfl rfl (by kernel_rfl) Try.func5 (by kernel_rfl)
    (of_decide_eq_true (by kernel_rfl)) (by unfold Func.isWrapper; first | (rw [if_pos (by decide +kernel)]; kernel_rfl) | (rw [if_neg (by decide +kernel)]; exact ⟨rfl, rfl⟩))
    (fun os started H enc _ => never_lifted os started H enc)
#print axioms never_holds
end Go.Proofs.Ytfogihnjeaeifaa
