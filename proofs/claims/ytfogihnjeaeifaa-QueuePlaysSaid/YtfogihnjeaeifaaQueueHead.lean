import Derived.Test.YtfogihnjeaeifaaQueueRef
import Derived.Lib.Hide
import Derived.Laws.Pointers
namespace Go.Proofs.Ytfogihnjeaeifaa
open Go.Conc Go.RowKit
set_option maxRecDepth 100000 in
set_option maxHeartbeats 2000000 in
theorem head_walk (w : World) : Calls Try.prog 8 #[] w fun e w' => e = .returned (.bool true) ∧ Below w.heap.size w w' := by
  have hnil := fun (w : World) (p : Option Addr) => run_eql_pointer_nil (P := Try.prog) w 24 p (by kernel_rfl)
  go_enter Try.func8, Try.ntmps8
  go_wp2_with fail
  refine (new_walk 2 2 w (by omega) (by omega) (by decide)).mono ?_
  rintro e w1 ⟨q, rfl, hq, hb⟩
  have HQ1 := Lib.hid hq; have HB1 := Lib.hid hb
  clear hq hb
  generalize hB : w.heap.size = B at *
  go_wp2_with fail
  refine (put_o_room B q 2 [] [] (.int .i64 1) w1 HQ1.out (by decide)).mono ?_
  rintro e w2 ⟨rfl, hq, hb⟩
  have HQ2 := Lib.hid hq; have HB2 := Lib.hid (HB1.out.trans hb)
  clear hq hb HQ1 HB1
  go_wp2_with fail
  refine (put_u_room B q 2 [] _ (.int .i64 2) w2 HQ2.out (by decide)).mono ?_
  rintro e w3 ⟨rfl, hq, hb⟩
  have HQ3 := Lib.hid hq; have HB3 := Lib.hid (HB2.out.trans hb)
  clear hq hb HQ2 HB2
  go_wp2_with fail
  refine (put_o_room B q 2 _ _ (.int .i64 3) w3 HQ3.out (by simp)).mono ?_
  rintro e w4 ⟨rfl, hq, hb⟩
  have HQ4 := Lib.hid hq; have HB4 := Lib.hid (HB3.out.trans hb)
  clear hq hb HQ3 HB3
  go_wp2_with fail
  refine (put_o_full B q 2 _ _ (.int .i64 4) w4 HQ4.out (by simp)).mono ?_
  rintro e w5 ⟨rfl, hq, hb⟩
  have HQ5 := Lib.hid hq; have HB5 := Lib.hid (HB4.out.trans hb)
  clear hq hb HQ4 HB4
  go_wp2_with fail
  refine (many B q 2 [.int .i64 2] [.int .i64 1, .int .i64 3] w5 HQ5.out).mono ?_
  rintro e w6 ⟨rfl, hq, hb⟩
  have HQ6 := Lib.hid hq; have HB6 := Lib.hid (HB5.out.trans hb)
  clear hq hb HQ5 HB5
  simp only [List.length_cons, List.length_nil]
  go_wp2_with fail
  refine (take_u B q 2 [] [.int .i64 1, .int .i64 3] (.int .i64 2) w6 HQ6.out).mono ?_
  rintro e w7 ⟨rfl, hq, hb⟩
  have HQ7 := Lib.hid hq; have HB7 := Lib.hid (HB6.out.trans hb)
  clear hq hb HQ6 HB6
  go_wp2_with fail
  refine (take_o B q 2 [.int .i64 3] (.int .i64 1) w7 HQ7.out).mono ?_
  rintro e w8 ⟨rfl, hq, hb⟩
  have HQ8 := Lib.hid hq; have HB8 := Lib.hid (HB7.out.trans hb)
  clear hq hb HQ7 HB7
  go_wp2_with fail
  refine (drain B q 2 [] [.int .i64 3] w8 HQ8.out (by simp)).mono ?_
  rintro e w9 ⟨rfl, hq, hb⟩
  have HQ9 := Lib.hid hq; have HB9 := Lib.hid (HB8.out.trans hb)
  clear hq hb HQ8 HB8
  simp only [List.length_cons, List.length_nil]
  go_wp2_with fail
  refine (take_n B q 2 w9 HQ9.out).mono ?_
  rintro e w10 ⟨rfl, hq, hb⟩
  have HB10 := Lib.hid (HB9.out.trans hb)
  clear hq hb HQ9 HB9
  go_wp2_with fail
  go_ret
  exact ⟨rfl, by rw [hB]; exact HB10.out⟩
end Go.Proofs.Ytfogihnjeaeifaa
