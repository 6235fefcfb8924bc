import Derived.Test.YtfogihnjeaeifaaChecked
import Derived.Conc.LoneCalls
import Derived.Conc.LoneSelectN
import Derived.KernelRfl
import Derived.Laws.Rows
namespace Go.Proofs.Ytfogihnjeaeifaa
open Go.Conc Go.RowKit
/-- a channel's block: its room, what waits in it, the eldest first -/
def ChAt (w : World) (c cap : Nat) (buf : List Value) : Prop := ∃ s r, w.heap[c]? = some (.chan cap buf.toArray false s r false)
/-- a queue lies at q: two channels of one room -/
def QAt (B : Nat) (t : TypeId) (w : World) (q cap : Nat) (U O : List Value) : Prop :=
  ∃ a b, B ≤ q ∧ B ≤ a ∧ B ≤ b ∧ a ≠ b ∧ q ≠ a ∧ q ≠ b ∧ w.heap[q]? = some (.cells #[.chan (some a), .chan (some b)] t (0, 0)) ∧ ChAt w a cap U ∧ ChAt w b cap O
theorem setChan_other (w : World) (c c' cap : Nat) (buf : Array Value) (closed : Bool) (s r : Nat) (tm : Bool) (h : c ≠ c') : (w.setChan c cap buf closed s r tm).heap[c']? = w.heap[c']? := by
  simp [World.setChan, Array.getElem?_setIfInBounds_ne h]
/-- every block of cells is as it was -/
def Cells (w w' : World) : Prop := ∀ (k : Nat) (cs : Array Value) (t : TypeId) (z : Nat × Nat), w.heap[k]? = some (Obj.cells cs t z) → w'.heap[k]? = w.heap[k]?
theorem Cells.refl (w : World) : Cells w w := fun _ _ _ _ _ => rfl
theorem Cells.trans {w w1 w2 : World} (h : Cells w w1) (h' : Cells w1 w2) : Cells w w2 := fun k cs t z hk => (h' k cs t z ((h k cs t z hk).trans hk)).trans (h k cs t z hk)
theorem Cells.below {w w1 : World} (h : Below w.heap.size w w1) : Cells w w1 := fun k _ _ _ hk => h.block k (Array.getElem?_eq_some_iff.1 hk).1
theorem cells_setChan {w : World} {c cap s r : Nat} {b : Array Value} {cl tm : Bool} (h : w.heap[c]? = some (.chan cap b cl s r tm)) (cap' s' r' : Nat) (b' : Array Value) (cl' tm' : Bool) : Cells w (w.setChan c cap' b' cl' s' r' tm') := by
  intro k cs t z hk
  refine setChan_other _ _ _ _ _ _ _ _ _ ?_
  rintro rfl
  rw [h] at hk
  cases hk
theorem lt_of_heap {w : World} {c : Nat} {x : Obj} (h : w.heap[c]? = some x) : c < w.heap.size := (Array.getElem?_eq_some_iff.1 h).1
theorem res_s0 (a : Nat) (u z v : Value) (ok : Bool) : commResult #[scase a u z] .select ((0 : Nat) : Int) v ok = .tuple #[goInt 0, .bool ok] := by
  simp [commResult, scase, List.zipIdx_cons]
theorem res_sd (a : Nat) (u z : Value) : commResult #[scase a u z] .select (-1) undef false = .tuple #[goInt (-1), .bool false] := by
  simp [commResult, scase, List.zipIdx_cons]
theorem res_r0 (a : Nat) (z v : Value) (ok : Bool) : commResult #[rcase a z] .select ((0 : Nat) : Int) v ok = .tuple #[goInt 0, .bool ok, v] := by
  simp [commResult, rcase, List.zipIdx_cons]
theorem res_rd (a : Nat) (z : Value) : commResult #[rcase a z] .select (-1) undef false = .tuple #[goInt (-1), .bool false, z] := by
  simp [commResult, rcase, List.zipIdx_cons]
set_option maxRecDepth 100000 in
theorem put_o_room_c (B q cap : Nat) (U O : List Value) (x : Value) (w : World) (h : QAt B 48 w q cap U O) (hr : O.length < cap) :
    Calls Try.prog 15 #[.pointer (some ⟨q, 0, none⟩), .bool false, x] w fun e w' => e = .returned (.bool true) ∧ QAt B 48 w' q cap U (O ++ [x]) ∧ Below B w w' ∧ Cells w w' := by
  obtain ⟨a, b, hq, ha, hb, hab, hqa, hqb, hx, ⟨s1, r1, hA⟩, ⟨s2, r2, hO⟩⟩ := h
  have c0 : w.cell? ⟨q, 0, none⟩ = some (.chan (some a)) := by simp [World.cell?, hx]
  have c1 : w.cell? ⟨q, 1, none⟩ = some (.chan (some b)) := by simp [World.cell?, hx]
  refine calls_of_loneTo fun cs => ?_
  have e : Frame.enter Try.prog 15 #[.pointer (some ⟨q, 0, none⟩), .bool false, x] .normal = (base 15).at ⟨#[.pointer (some ⟨q, 0, none⟩), .bool false, x, undef, undef, undef, undef, undef, undef, undef, undef, undef, undef, undef, undef, undef, undef, undef, undef, undef, undef, undef], []⟩ [.code (Try.f15.body.getD .skip)] := by
    simp [Frame.enter, Frame.at, Try.func15, base, Try.f15]
  rw [e]
  refine LoneTo.goes (n := 100) ?_
  simp only [Try.f15, Option.getD_some]
  repeat (first | s_c stepG_seq | s_c stepG_region_end | s_c stepG_block | s_c stepG_skip | s_c stepG_inBlock | s_exit | s_reg | s_op | s_c stepG_ret')
  s_cond false
  repeat (first | s_c stepG_seq | s_c stepG_region_end | s_c stepG_block | s_c stepG_skip | s_c stepG_inBlock | s_exit | s_reg | s_op | s_c stepG_ret')
  s_stop
  refine LoneTo.step (step_lone_sel_send_room (k := 0) (c := b) (v := x) (z := .int .i64 0) (cap := cap) (buf := O.toArray) (s := s2) (r := r2) (tm := false)
    (stepG_comm (cases := #[scase b x (.int .i64 0)]) (blocking := false) (shape := .select) (w' := w) rfl rfl (by decide) (by simp [go_sem, execOp, scase, Act.eval]))
    rfl (fun m c' hm hc' => ?_) hO (by simpa using hr)) ?_
  · rcases m with _ | m
    · exact absurd rfl hm
    · simp at hc'
  rw [Frame.finish_at, res_s0]
  walk_nrm
  refine LoneTo.goes (n := 100) ?_
  repeat (first | s_c stepG_seq | s_c stepG_region_end | s_c stepG_block | s_c stepG_skip | s_c stepG_inBlock | s_exit | s_reg | s_op | s_c stepG_ret')
  s_cond true
  repeat (first | s_c stepG_seq | s_c stepG_region_end | s_c stepG_block | s_c stepG_skip | s_c stepG_inBlock | s_exit | s_reg | s_op | s_c stepG_ret')
  s_stop
  refine LoneTo.done ⟨.returned (.bool true), _, rfl, ⟨rfl, ?_, ?_, ?_⟩, rfl, rfl, rfl, rfl, _, Try.func15, by simp [results, Try.f15, Frame.at]⟩
  · exact ⟨a, b, hq, ha, hb, hab, hqa, hqb, (setChan_other _ _ _ _ _ _ _ _ _ (Ne.symm hqb)).trans hx, ⟨s1, r1, (setChan_other _ _ _ _ _ _ _ _ _ (Ne.symm hab)).trans hA⟩, ⟨s2 + 1, r2, by rw [heap_setChan _ _ _ _ _ _ _ _ (lt_of_heap hO)]; try simp⟩⟩
  · exact below_setChan (Below.refl _ w) hb _ _ _ _ _ _
  · exact cells_setChan hO _ _ _ _ _ _
theorem put_o_room (B q cap : Nat) (U O : List Value) (x : Value) (w : World) (h : QAt B 48 w q cap U O) (hr : O.length < cap) :
    Calls Try.prog 15 #[.pointer (some ⟨q, 0, none⟩), .bool false, x] w fun e w' => e = .returned (.bool true) ∧ QAt B 48 w' q cap U (O ++ [x]) ∧ Below B w w' :=
  (put_o_room_c B q cap U O x w h hr).mono fun _ _ h => ⟨h.1, h.2.1, h.2.2.1⟩
set_option maxRecDepth 100000 in
theorem put_o_full_c (B q cap : Nat) (U O : List Value) (x : Value) (w : World) (h : QAt B 48 w q cap U O) (hr : cap ≤ O.length) :
    Calls Try.prog 15 #[.pointer (some ⟨q, 0, none⟩), .bool false, x] w fun e w' => e = .returned (.bool false) ∧ QAt B 48 w' q cap U O ∧ Below B w w' ∧ Cells w w' := by
  obtain ⟨a, b, hq, ha, hb, hab, hqa, hqb, hx, ⟨s1, r1, hA⟩, ⟨s2, r2, hO⟩⟩ := h
  have c0 : w.cell? ⟨q, 0, none⟩ = some (.chan (some a)) := by simp [World.cell?, hx]
  have c1 : w.cell? ⟨q, 1, none⟩ = some (.chan (some b)) := by simp [World.cell?, hx]
  refine calls_of_loneTo fun cs => ?_
  have e : Frame.enter Try.prog 15 #[.pointer (some ⟨q, 0, none⟩), .bool false, x] .normal = (base 15).at ⟨#[.pointer (some ⟨q, 0, none⟩), .bool false, x, undef, undef, undef, undef, undef, undef, undef, undef, undef, undef, undef, undef, undef, undef, undef, undef, undef, undef, undef], []⟩ [.code (Try.f15.body.getD .skip)] := by
    simp [Frame.enter, Frame.at, Try.func15, base, Try.f15]
  rw [e]
  refine LoneTo.goes (n := 100) ?_
  simp only [Try.f15, Option.getD_some]
  repeat (first | s_c stepG_seq | s_c stepG_region_end | s_c stepG_block | s_c stepG_skip | s_c stepG_inBlock | s_exit | s_reg | s_op | s_c stepG_ret')
  s_cond false
  repeat (first | s_c stepG_seq | s_c stepG_region_end | s_c stepG_block | s_c stepG_skip | s_c stepG_inBlock | s_exit | s_reg | s_op | s_c stepG_ret')
  s_stop
  refine LoneTo.step (step_lone_sel_default
    (stepG_comm (cases := #[scase b x (.int .i64 0)]) (blocking := false) (shape := .select) (w' := w) rfl rfl (by decide) (by simp [go_sem, execOp, scase, Act.eval]))
    (fun cc hcc => ?_)) ?_
  · simp only [List.mem_toArray, List.mem_cons, List.not_mem_nil, or_false] at hcc
    subst hcc
    exact noWay_send hO (by simpa using hr)
  rw [Frame.finish_at, res_sd]
  walk_nrm
  refine LoneTo.goes (n := 100) ?_
  repeat (first | s_c stepG_seq | s_c stepG_region_end | s_c stepG_block | s_c stepG_skip | s_c stepG_inBlock | s_exit | s_reg | s_op | s_c stepG_ret')
  s_cond false
  repeat (first | s_c stepG_seq | s_c stepG_region_end | s_c stepG_block | s_c stepG_skip | s_c stepG_inBlock | s_exit | s_reg | s_op | s_c stepG_ret')
  s_stop
  refine LoneTo.done ⟨.returned (.bool false), _, rfl, ⟨rfl, ?_, ?_, ?_⟩, rfl, rfl, rfl, rfl, _, Try.func15, by simp [results, Try.f15, Frame.at]⟩
  · exact ⟨a, b, hq, ha, hb, hab, hqa, hqb, hx, ⟨s1, r1, hA⟩, ⟨s2, r2, hO⟩⟩
  · exact Below.refl _ w
  · exact Cells.refl w
theorem put_o_full (B q cap : Nat) (U O : List Value) (x : Value) (w : World) (h : QAt B 48 w q cap U O) (hr : cap ≤ O.length) :
    Calls Try.prog 15 #[.pointer (some ⟨q, 0, none⟩), .bool false, x] w fun e w' => e = .returned (.bool false) ∧ QAt B 48 w' q cap U O ∧ Below B w w' :=
  (put_o_full_c B q cap U O x w h hr).mono fun _ _ h => ⟨h.1, h.2.1, h.2.2.1⟩
set_option maxRecDepth 100000 in
theorem put_u_room_c (B q cap : Nat) (U O : List Value) (x : Value) (w : World) (h : QAt B 48 w q cap U O) (hr : U.length < cap) :
    Calls Try.prog 15 #[.pointer (some ⟨q, 0, none⟩), .bool true, x] w fun e w' => e = .returned (.bool true) ∧ QAt B 48 w' q cap (U ++ [x]) O ∧ Below B w w' ∧ Cells w w' := by
  obtain ⟨a, b, hq, ha, hb, hab, hqa, hqb, hx, ⟨s1, r1, hA⟩, ⟨s2, r2, hO⟩⟩ := h
  have c0 : w.cell? ⟨q, 0, none⟩ = some (.chan (some a)) := by simp [World.cell?, hx]
  have c1 : w.cell? ⟨q, 1, none⟩ = some (.chan (some b)) := by simp [World.cell?, hx]
  refine calls_of_loneTo fun cs => ?_
  have e : Frame.enter Try.prog 15 #[.pointer (some ⟨q, 0, none⟩), .bool true, x] .normal = (base 15).at ⟨#[.pointer (some ⟨q, 0, none⟩), .bool true, x, undef, undef, undef, undef, undef, undef, undef, undef, undef, undef, undef, undef, undef, undef, undef, undef, undef, undef, undef], []⟩ [.code (Try.f15.body.getD .skip)] := by
    simp [Frame.enter, Frame.at, Try.func15, base, Try.f15]
  rw [e]
  refine LoneTo.goes (n := 100) ?_
  simp only [Try.f15, Option.getD_some]
  repeat (first | s_c stepG_seq | s_c stepG_region_end | s_c stepG_block | s_c stepG_skip | s_c stepG_inBlock | s_exit | s_reg | s_op | s_c stepG_ret')
  s_cond true
  repeat (first | s_c stepG_seq | s_c stepG_region_end | s_c stepG_block | s_c stepG_skip | s_c stepG_inBlock | s_exit | s_reg | s_op | s_c stepG_ret')
  s_stop
  refine LoneTo.step (step_lone_sel_send_room (k := 0) (c := a) (v := x) (z := .int .i64 0) (cap := cap) (buf := U.toArray) (s := s1) (r := r1) (tm := false)
    (stepG_comm (cases := #[scase a x (.int .i64 0)]) (blocking := false) (shape := .select) (w' := w) rfl rfl (by decide) (by simp [go_sem, execOp, scase, Act.eval]))
    rfl (fun m c' hm hc' => ?_) hA (by simpa using hr)) ?_
  · rcases m with _ | m
    · exact absurd rfl hm
    · simp at hc'
  rw [Frame.finish_at, res_s0]
  walk_nrm
  refine LoneTo.goes (n := 100) ?_
  repeat (first | s_c stepG_seq | s_c stepG_region_end | s_c stepG_block | s_c stepG_skip | s_c stepG_inBlock | s_exit | s_reg | s_op | s_c stepG_ret')
  s_cond true
  repeat (first | s_c stepG_seq | s_c stepG_region_end | s_c stepG_block | s_c stepG_skip | s_c stepG_inBlock | s_exit | s_reg | s_op | s_c stepG_ret')
  s_stop
  refine LoneTo.done ⟨.returned (.bool true), _, rfl, ⟨rfl, ?_, ?_, ?_⟩, rfl, rfl, rfl, rfl, _, Try.func15, by simp [results, Try.f15, Frame.at]⟩
  · exact ⟨a, b, hq, ha, hb, hab, hqa, hqb, (setChan_other _ _ _ _ _ _ _ _ _ (Ne.symm hqa)).trans hx, ⟨s1 + 1, r1, by rw [heap_setChan _ _ _ _ _ _ _ _ (lt_of_heap hA)]; try simp⟩, ⟨s2, r2, (setChan_other _ _ _ _ _ _ _ _ _ hab).trans hO⟩⟩
  · exact below_setChan (Below.refl _ w) ha _ _ _ _ _ _
  · exact cells_setChan hA _ _ _ _ _ _
theorem put_u_room (B q cap : Nat) (U O : List Value) (x : Value) (w : World) (h : QAt B 48 w q cap U O) (hr : U.length < cap) :
    Calls Try.prog 15 #[.pointer (some ⟨q, 0, none⟩), .bool true, x] w fun e w' => e = .returned (.bool true) ∧ QAt B 48 w' q cap (U ++ [x]) O ∧ Below B w w' :=
  (put_u_room_c B q cap U O x w h hr).mono fun _ _ h => ⟨h.1, h.2.1, h.2.2.1⟩
set_option maxRecDepth 100000 in
theorem put_u_full_c (B q cap : Nat) (U O : List Value) (x : Value) (w : World) (h : QAt B 48 w q cap U O) (hr : cap ≤ U.length) :
    Calls Try.prog 15 #[.pointer (some ⟨q, 0, none⟩), .bool true, x] w fun e w' => e = .returned (.bool false) ∧ QAt B 48 w' q cap U O ∧ Below B w w' ∧ Cells w w' := by
  obtain ⟨a, b, hq, ha, hb, hab, hqa, hqb, hx, ⟨s1, r1, hA⟩, ⟨s2, r2, hO⟩⟩ := h
  have c0 : w.cell? ⟨q, 0, none⟩ = some (.chan (some a)) := by simp [World.cell?, hx]
  have c1 : w.cell? ⟨q, 1, none⟩ = some (.chan (some b)) := by simp [World.cell?, hx]
  refine calls_of_loneTo fun cs => ?_
  have e : Frame.enter Try.prog 15 #[.pointer (some ⟨q, 0, none⟩), .bool true, x] .normal = (base 15).at ⟨#[.pointer (some ⟨q, 0, none⟩), .bool true, x, undef, undef, undef, undef, undef, undef, undef, undef, undef, undef, undef, undef, undef, undef, undef, undef, undef, undef, undef], []⟩ [.code (Try.f15.body.getD .skip)] := by
    simp [Frame.enter, Frame.at, Try.func15, base, Try.f15]
  rw [e]
  refine LoneTo.goes (n := 100) ?_
  simp only [Try.f15, Option.getD_some]
  repeat (first | s_c stepG_seq | s_c stepG_region_end | s_c stepG_block | s_c stepG_skip | s_c stepG_inBlock | s_exit | s_reg | s_op | s_c stepG_ret')
  s_cond true
  repeat (first | s_c stepG_seq | s_c stepG_region_end | s_c stepG_block | s_c stepG_skip | s_c stepG_inBlock | s_exit | s_reg | s_op | s_c stepG_ret')
  s_stop
  refine LoneTo.step (step_lone_sel_default
    (stepG_comm (cases := #[scase a x (.int .i64 0)]) (blocking := false) (shape := .select) (w' := w) rfl rfl (by decide) (by simp [go_sem, execOp, scase, Act.eval]))
    (fun cc hcc => ?_)) ?_
  · simp only [List.mem_toArray, List.mem_cons, List.not_mem_nil, or_false] at hcc
    subst hcc
    exact noWay_send hA (by simpa using hr)
  rw [Frame.finish_at, res_sd]
  walk_nrm
  refine LoneTo.goes (n := 100) ?_
  repeat (first | s_c stepG_seq | s_c stepG_region_end | s_c stepG_block | s_c stepG_skip | s_c stepG_inBlock | s_exit | s_reg | s_op | s_c stepG_ret')
  s_cond false
  repeat (first | s_c stepG_seq | s_c stepG_region_end | s_c stepG_block | s_c stepG_skip | s_c stepG_inBlock | s_exit | s_reg | s_op | s_c stepG_ret')
  s_stop
  refine LoneTo.done ⟨.returned (.bool false), _, rfl, ⟨rfl, ?_, ?_, ?_⟩, rfl, rfl, rfl, rfl, _, Try.func15, by simp [results, Try.f15, Frame.at]⟩
  · exact ⟨a, b, hq, ha, hb, hab, hqa, hqb, hx, ⟨s1, r1, hA⟩, ⟨s2, r2, hO⟩⟩
  · exact Below.refl _ w
  · exact Cells.refl w
theorem put_u_full (B q cap : Nat) (U O : List Value) (x : Value) (w : World) (h : QAt B 48 w q cap U O) (hr : cap ≤ U.length) :
    Calls Try.prog 15 #[.pointer (some ⟨q, 0, none⟩), .bool true, x] w fun e w' => e = .returned (.bool false) ∧ QAt B 48 w' q cap U O ∧ Below B w w' :=
  (put_u_full_c B q cap U O x w h hr).mono fun _ _ h => ⟨h.1, h.2.1, h.2.2.1⟩
set_option maxRecDepth 100000 in
theorem bput_o_room_c (B q cap : Nat) (U O : List Value) (x : Value) (w : World) (h : QAt B 53 w q cap U O) (hr : O.length < cap) :
    Calls Try.prog 20 #[.pointer (some ⟨q, 0, none⟩), .bool false, x] w fun e w' => e = .returned (.bool true) ∧ QAt B 53 w' q cap U (O ++ [x]) ∧ Below B w w' ∧ Cells w w' := by
  obtain ⟨a, b, hq, ha, hb, hab, hqa, hqb, hx, ⟨s1, r1, hA⟩, ⟨s2, r2, hO⟩⟩ := h
  have c0 : w.cell? ⟨q, 0, none⟩ = some (.chan (some a)) := by simp [World.cell?, hx]
  have c1 : w.cell? ⟨q, 1, none⟩ = some (.chan (some b)) := by simp [World.cell?, hx]
  refine calls_of_loneTo fun cs => ?_
  have e : Frame.enter Try.prog 20 #[.pointer (some ⟨q, 0, none⟩), .bool false, x] .normal = (base 20).at ⟨#[.pointer (some ⟨q, 0, none⟩), .bool false, x, undef, undef, undef, undef, undef, undef, undef, undef, undef, undef, undef, undef, undef, undef, undef, undef, undef, undef, undef], []⟩ [.code (Try.f20.body.getD .skip)] := by
    simp [Frame.enter, Frame.at, Try.func20, base, Try.f20]
  rw [e]
  refine LoneTo.goes (n := 100) ?_
  simp only [Try.f20, Option.getD_some]
  repeat (first | s_c stepG_seq | s_c stepG_region_end | s_c stepG_block | s_c stepG_skip | s_c stepG_inBlock | s_exit | s_reg | s_op | s_c stepG_ret')
  s_cond false
  repeat (first | s_c stepG_seq | s_c stepG_region_end | s_c stepG_block | s_c stepG_skip | s_c stepG_inBlock | s_exit | s_reg | s_op | s_c stepG_ret')
  s_stop
  refine LoneTo.step (step_lone_sel_send_room (k := 0) (c := b) (v := x) (z := .bool false) (cap := cap) (buf := O.toArray) (s := s2) (r := r2) (tm := false)
    (stepG_comm (cases := #[scase b x (.bool false)]) (blocking := false) (shape := .select) (w' := w) rfl rfl (by decide) (by simp [go_sem, execOp, scase, Act.eval]))
    rfl (fun m c' hm hc' => ?_) hO (by simpa using hr)) ?_
  · rcases m with _ | m
    · exact absurd rfl hm
    · simp at hc'
  rw [Frame.finish_at, res_s0]
  walk_nrm
  refine LoneTo.goes (n := 100) ?_
  repeat (first | s_c stepG_seq | s_c stepG_region_end | s_c stepG_block | s_c stepG_skip | s_c stepG_inBlock | s_exit | s_reg | s_op | s_c stepG_ret')
  s_cond true
  repeat (first | s_c stepG_seq | s_c stepG_region_end | s_c stepG_block | s_c stepG_skip | s_c stepG_inBlock | s_exit | s_reg | s_op | s_c stepG_ret')
  s_stop
  refine LoneTo.done ⟨.returned (.bool true), _, rfl, ⟨rfl, ?_, ?_, ?_⟩, rfl, rfl, rfl, rfl, _, Try.func20, by simp [results, Try.f20, Frame.at]⟩
  · exact ⟨a, b, hq, ha, hb, hab, hqa, hqb, (setChan_other _ _ _ _ _ _ _ _ _ (Ne.symm hqb)).trans hx, ⟨s1, r1, (setChan_other _ _ _ _ _ _ _ _ _ (Ne.symm hab)).trans hA⟩, ⟨s2 + 1, r2, by rw [heap_setChan _ _ _ _ _ _ _ _ (lt_of_heap hO)]; try simp⟩⟩
  · exact below_setChan (Below.refl _ w) hb _ _ _ _ _ _
  · exact cells_setChan hO _ _ _ _ _ _
theorem bput_o_room (B q cap : Nat) (U O : List Value) (x : Value) (w : World) (h : QAt B 53 w q cap U O) (hr : O.length < cap) :
    Calls Try.prog 20 #[.pointer (some ⟨q, 0, none⟩), .bool false, x] w fun e w' => e = .returned (.bool true) ∧ QAt B 53 w' q cap U (O ++ [x]) ∧ Below B w w' :=
  (bput_o_room_c B q cap U O x w h hr).mono fun _ _ h => ⟨h.1, h.2.1, h.2.2.1⟩
set_option maxRecDepth 100000 in
theorem bput_o_full_c (B q cap : Nat) (U O : List Value) (x : Value) (w : World) (h : QAt B 53 w q cap U O) (hr : cap ≤ O.length) :
    Calls Try.prog 20 #[.pointer (some ⟨q, 0, none⟩), .bool false, x] w fun e w' => e = .returned (.bool false) ∧ QAt B 53 w' q cap U O ∧ Below B w w' ∧ Cells w w' := by
  obtain ⟨a, b, hq, ha, hb, hab, hqa, hqb, hx, ⟨s1, r1, hA⟩, ⟨s2, r2, hO⟩⟩ := h
  have c0 : w.cell? ⟨q, 0, none⟩ = some (.chan (some a)) := by simp [World.cell?, hx]
  have c1 : w.cell? ⟨q, 1, none⟩ = some (.chan (some b)) := by simp [World.cell?, hx]
  refine calls_of_loneTo fun cs => ?_
  have e : Frame.enter Try.prog 20 #[.pointer (some ⟨q, 0, none⟩), .bool false, x] .normal = (base 20).at ⟨#[.pointer (some ⟨q, 0, none⟩), .bool false, x, undef, undef, undef, undef, undef, undef, undef, undef, undef, undef, undef, undef, undef, undef, undef, undef, undef, undef, undef], []⟩ [.code (Try.f20.body.getD .skip)] := by
    simp [Frame.enter, Frame.at, Try.func20, base, Try.f20]
  rw [e]
  refine LoneTo.goes (n := 100) ?_
  simp only [Try.f20, Option.getD_some]
  repeat (first | s_c stepG_seq | s_c stepG_region_end | s_c stepG_block | s_c stepG_skip | s_c stepG_inBlock | s_exit | s_reg | s_op | s_c stepG_ret')
  s_cond false
  repeat (first | s_c stepG_seq | s_c stepG_region_end | s_c stepG_block | s_c stepG_skip | s_c stepG_inBlock | s_exit | s_reg | s_op | s_c stepG_ret')
  s_stop
  refine LoneTo.step (step_lone_sel_default
    (stepG_comm (cases := #[scase b x (.bool false)]) (blocking := false) (shape := .select) (w' := w) rfl rfl (by decide) (by simp [go_sem, execOp, scase, Act.eval]))
    (fun cc hcc => ?_)) ?_
  · simp only [List.mem_toArray, List.mem_cons, List.not_mem_nil, or_false] at hcc
    subst hcc
    exact noWay_send hO (by simpa using hr)
  rw [Frame.finish_at, res_sd]
  walk_nrm
  refine LoneTo.goes (n := 100) ?_
  repeat (first | s_c stepG_seq | s_c stepG_region_end | s_c stepG_block | s_c stepG_skip | s_c stepG_inBlock | s_exit | s_reg | s_op | s_c stepG_ret')
  s_cond false
  repeat (first | s_c stepG_seq | s_c stepG_region_end | s_c stepG_block | s_c stepG_skip | s_c stepG_inBlock | s_exit | s_reg | s_op | s_c stepG_ret')
  s_stop
  refine LoneTo.done ⟨.returned (.bool false), _, rfl, ⟨rfl, ?_, ?_, ?_⟩, rfl, rfl, rfl, rfl, _, Try.func20, by simp [results, Try.f20, Frame.at]⟩
  · exact ⟨a, b, hq, ha, hb, hab, hqa, hqb, hx, ⟨s1, r1, hA⟩, ⟨s2, r2, hO⟩⟩
  · exact Below.refl _ w
  · exact Cells.refl w
theorem bput_o_full (B q cap : Nat) (U O : List Value) (x : Value) (w : World) (h : QAt B 53 w q cap U O) (hr : cap ≤ O.length) :
    Calls Try.prog 20 #[.pointer (some ⟨q, 0, none⟩), .bool false, x] w fun e w' => e = .returned (.bool false) ∧ QAt B 53 w' q cap U O ∧ Below B w w' :=
  (bput_o_full_c B q cap U O x w h hr).mono fun _ _ h => ⟨h.1, h.2.1, h.2.2.1⟩
set_option maxRecDepth 100000 in
theorem bput_u_room_c (B q cap : Nat) (U O : List Value) (x : Value) (w : World) (h : QAt B 53 w q cap U O) (hr : U.length < cap) :
    Calls Try.prog 20 #[.pointer (some ⟨q, 0, none⟩), .bool true, x] w fun e w' => e = .returned (.bool true) ∧ QAt B 53 w' q cap (U ++ [x]) O ∧ Below B w w' ∧ Cells w w' := by
  obtain ⟨a, b, hq, ha, hb, hab, hqa, hqb, hx, ⟨s1, r1, hA⟩, ⟨s2, r2, hO⟩⟩ := h
  have c0 : w.cell? ⟨q, 0, none⟩ = some (.chan (some a)) := by simp [World.cell?, hx]
  have c1 : w.cell? ⟨q, 1, none⟩ = some (.chan (some b)) := by simp [World.cell?, hx]
  refine calls_of_loneTo fun cs => ?_
  have e : Frame.enter Try.prog 20 #[.pointer (some ⟨q, 0, none⟩), .bool true, x] .normal = (base 20).at ⟨#[.pointer (some ⟨q, 0, none⟩), .bool true, x, undef, undef, undef, undef, undef, undef, undef, undef, undef, undef, undef, undef, undef, undef, undef, undef, undef, undef, undef], []⟩ [.code (Try.f20.body.getD .skip)] := by
    simp [Frame.enter, Frame.at, Try.func20, base, Try.f20]
  rw [e]
  refine LoneTo.goes (n := 100) ?_
  simp only [Try.f20, Option.getD_some]
  repeat (first | s_c stepG_seq | s_c stepG_region_end | s_c stepG_block | s_c stepG_skip | s_c stepG_inBlock | s_exit | s_reg | s_op | s_c stepG_ret')
  s_cond true
  repeat (first | s_c stepG_seq | s_c stepG_region_end | s_c stepG_block | s_c stepG_skip | s_c stepG_inBlock | s_exit | s_reg | s_op | s_c stepG_ret')
  s_stop
  refine LoneTo.step (step_lone_sel_send_room (k := 0) (c := a) (v := x) (z := .bool false) (cap := cap) (buf := U.toArray) (s := s1) (r := r1) (tm := false)
    (stepG_comm (cases := #[scase a x (.bool false)]) (blocking := false) (shape := .select) (w' := w) rfl rfl (by decide) (by simp [go_sem, execOp, scase, Act.eval]))
    rfl (fun m c' hm hc' => ?_) hA (by simpa using hr)) ?_
  · rcases m with _ | m
    · exact absurd rfl hm
    · simp at hc'
  rw [Frame.finish_at, res_s0]
  walk_nrm
  refine LoneTo.goes (n := 100) ?_
  repeat (first | s_c stepG_seq | s_c stepG_region_end | s_c stepG_block | s_c stepG_skip | s_c stepG_inBlock | s_exit | s_reg | s_op | s_c stepG_ret')
  s_cond true
  repeat (first | s_c stepG_seq | s_c stepG_region_end | s_c stepG_block | s_c stepG_skip | s_c stepG_inBlock | s_exit | s_reg | s_op | s_c stepG_ret')
  s_stop
  refine LoneTo.done ⟨.returned (.bool true), _, rfl, ⟨rfl, ?_, ?_, ?_⟩, rfl, rfl, rfl, rfl, _, Try.func20, by simp [results, Try.f20, Frame.at]⟩
  · exact ⟨a, b, hq, ha, hb, hab, hqa, hqb, (setChan_other _ _ _ _ _ _ _ _ _ (Ne.symm hqa)).trans hx, ⟨s1 + 1, r1, by rw [heap_setChan _ _ _ _ _ _ _ _ (lt_of_heap hA)]; try simp⟩, ⟨s2, r2, (setChan_other _ _ _ _ _ _ _ _ _ hab).trans hO⟩⟩
  · exact below_setChan (Below.refl _ w) ha _ _ _ _ _ _
  · exact cells_setChan hA _ _ _ _ _ _
theorem bput_u_room (B q cap : Nat) (U O : List Value) (x : Value) (w : World) (h : QAt B 53 w q cap U O) (hr : U.length < cap) :
    Calls Try.prog 20 #[.pointer (some ⟨q, 0, none⟩), .bool true, x] w fun e w' => e = .returned (.bool true) ∧ QAt B 53 w' q cap (U ++ [x]) O ∧ Below B w w' :=
  (bput_u_room_c B q cap U O x w h hr).mono fun _ _ h => ⟨h.1, h.2.1, h.2.2.1⟩
set_option maxRecDepth 100000 in
theorem bput_u_full_c (B q cap : Nat) (U O : List Value) (x : Value) (w : World) (h : QAt B 53 w q cap U O) (hr : cap ≤ U.length) :
    Calls Try.prog 20 #[.pointer (some ⟨q, 0, none⟩), .bool true, x] w fun e w' => e = .returned (.bool false) ∧ QAt B 53 w' q cap U O ∧ Below B w w' ∧ Cells w w' := by
  obtain ⟨a, b, hq, ha, hb, hab, hqa, hqb, hx, ⟨s1, r1, hA⟩, ⟨s2, r2, hO⟩⟩ := h
  have c0 : w.cell? ⟨q, 0, none⟩ = some (.chan (some a)) := by simp [World.cell?, hx]
  have c1 : w.cell? ⟨q, 1, none⟩ = some (.chan (some b)) := by simp [World.cell?, hx]
  refine calls_of_loneTo fun cs => ?_
  have e : Frame.enter Try.prog 20 #[.pointer (some ⟨q, 0, none⟩), .bool true, x] .normal = (base 20).at ⟨#[.pointer (some ⟨q, 0, none⟩), .bool true, x, undef, undef, undef, undef, undef, undef, undef, undef, undef, undef, undef, undef, undef, undef, undef, undef, undef, undef, undef], []⟩ [.code (Try.f20.body.getD .skip)] := by
    simp [Frame.enter, Frame.at, Try.func20, base, Try.f20]
  rw [e]
  refine LoneTo.goes (n := 100) ?_
  simp only [Try.f20, Option.getD_some]
  repeat (first | s_c stepG_seq | s_c stepG_region_end | s_c stepG_block | s_c stepG_skip | s_c stepG_inBlock | s_exit | s_reg | s_op | s_c stepG_ret')
  s_cond true
  repeat (first | s_c stepG_seq | s_c stepG_region_end | s_c stepG_block | s_c stepG_skip | s_c stepG_inBlock | s_exit | s_reg | s_op | s_c stepG_ret')
  s_stop
  refine LoneTo.step (step_lone_sel_default
    (stepG_comm (cases := #[scase a x (.bool false)]) (blocking := false) (shape := .select) (w' := w) rfl rfl (by decide) (by simp [go_sem, execOp, scase, Act.eval]))
    (fun cc hcc => ?_)) ?_
  · simp only [List.mem_toArray, List.mem_cons, List.not_mem_nil, or_false] at hcc
    subst hcc
    exact noWay_send hA (by simpa using hr)
  rw [Frame.finish_at, res_sd]
  walk_nrm
  refine LoneTo.goes (n := 100) ?_
  repeat (first | s_c stepG_seq | s_c stepG_region_end | s_c stepG_block | s_c stepG_skip | s_c stepG_inBlock | s_exit | s_reg | s_op | s_c stepG_ret')
  s_cond false
  repeat (first | s_c stepG_seq | s_c stepG_region_end | s_c stepG_block | s_c stepG_skip | s_c stepG_inBlock | s_exit | s_reg | s_op | s_c stepG_ret')
  s_stop
  refine LoneTo.done ⟨.returned (.bool false), _, rfl, ⟨rfl, ?_, ?_, ?_⟩, rfl, rfl, rfl, rfl, _, Try.func20, by simp [results, Try.f20, Frame.at]⟩
  · exact ⟨a, b, hq, ha, hb, hab, hqa, hqb, hx, ⟨s1, r1, hA⟩, ⟨s2, r2, hO⟩⟩
  · exact Below.refl _ w
  · exact Cells.refl w
theorem bput_u_full (B q cap : Nat) (U O : List Value) (x : Value) (w : World) (h : QAt B 53 w q cap U O) (hr : cap ≤ U.length) :
    Calls Try.prog 20 #[.pointer (some ⟨q, 0, none⟩), .bool true, x] w fun e w' => e = .returned (.bool false) ∧ QAt B 53 w' q cap U O ∧ Below B w w' :=
  (bput_u_full_c B q cap U O x w h hr).mono fun _ _ h => ⟨h.1, h.2.1, h.2.2.1⟩
end Go.Proofs.Ytfogihnjeaeifaa
