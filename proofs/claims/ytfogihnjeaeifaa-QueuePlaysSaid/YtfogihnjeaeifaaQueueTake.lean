import Derived.Test.YtfogihnjeaeifaaQueuePut
namespace Go.Proofs.Ytfogihnjeaeifaa
open Go.Conc Go.RowKit
set_option maxRecDepth 100000 in
theorem take_u_c (B q cap : Nat) (U O : List Value) (x : Value) (w : World) (h : QAt B 48 w q cap (x :: U) O) :
    Calls Try.prog 11 #[.pointer (some ⟨q, 0, none⟩)] w fun e w' => e = .returned (.tuple #[x, .bool true]) ∧ QAt B 48 w' q cap U O ∧ Below B w w' ∧ Cells w w' := by
  obtain ⟨a, b, hq, ha, hb, hab, hqa, hqb, hx, ⟨s1, r1, hA⟩, ⟨s2, r2, hO⟩⟩ := h
  have c0 : w.cell? ⟨q, 0, none⟩ = some (.chan (some a)) := by simp [World.cell?, hx]
  have c1 : w.cell? ⟨q, 1, none⟩ = some (.chan (some b)) := by simp [World.cell?, hx]
  refine calls_of_loneTo fun cs => ?_
  have e : Frame.enter Try.prog 11 #[.pointer (some ⟨q, 0, none⟩)] .normal = (base 11).at ⟨#[.pointer (some ⟨q, 0, none⟩), undef, undef, undef, undef, undef, undef, undef, undef, undef, undef, undef, undef, undef, undef, undef, undef, undef, undef, undef, undef, undef, undef, undef, undef, undef], []⟩ [.code (Try.f11.body.getD .skip)] := by
    simp [Frame.enter, Frame.at, Try.func11, base, Try.f11]
  rw [e]
  refine LoneTo.goes (n := 100) ?_
  simp only [Try.f11, Option.getD_some]
  repeat (first | s_c stepG_seq | s_c stepG_region_end | s_c stepG_block | s_c stepG_skip | s_c stepG_inBlock | s_exit | s_reg | s_op | s_c stepG_ret')
  s_stop
  refine LoneTo.step (step_lone_sel_recv_buf (k := 0) (c := a) (z := .int .i64 0) (cap := cap) (buf := (x :: U).toArray) (closed := false) (s := s1) (r := r1) (tm := false)
    (stepG_comm (cases := #[rcase a (.int .i64 0)]) (blocking := false) (shape := .select) (w' := w) rfl rfl (by decide) (by simp [go_sem, execOp, rcase, Act.eval]))
    rfl (fun m c' hm hc' => ?_) hA (by simp)) ?_
  · rcases m with _ | m
    · exact absurd rfl hm
    · simp at hc'
  rw [Frame.finish_at, res_r0]
  walk_nrm
  refine LoneTo.goes (n := 100) ?_
  repeat (first | s_c stepG_seq | s_c stepG_region_end | s_c stepG_block | s_c stepG_skip | s_c stepG_inBlock | s_exit | s_reg | s_op | s_c stepG_ret')
  s_cond true
  repeat (first | s_c stepG_seq | s_c stepG_region_end | s_c stepG_block | s_c stepG_skip | s_c stepG_inBlock | s_exit | s_reg | s_op | s_c stepG_ret')
  s_stop
  refine LoneTo.done ⟨.returned (.tuple #[x, .bool true]), _, rfl, ⟨rfl, ?_, ?_, ?_⟩, rfl, rfl, rfl, rfl, _, Try.func11, by simp [results, Try.f11, Frame.at]⟩
  · exact ⟨a, b, hq, ha, hb, hab, hqa, hqb, (setChan_other _ _ _ _ _ _ _ _ _ (Ne.symm hqa)).trans hx, ⟨s1, r1 + 1, by rw [heap_setChan _ _ _ _ _ _ _ _ (lt_of_heap hA)]; try simp⟩, ⟨s2, r2, (setChan_other _ _ _ _ _ _ _ _ _ hab).trans hO⟩⟩
  · exact below_setChan (Below.refl _ w) ha _ _ _ _ _ _
  · exact cells_setChan hA _ _ _ _ _ _
theorem take_u (B q cap : Nat) (U O : List Value) (x : Value) (w : World) (h : QAt B 48 w q cap (x :: U) O) :
    Calls Try.prog 11 #[.pointer (some ⟨q, 0, none⟩)] w fun e w' => e = .returned (.tuple #[x, .bool true]) ∧ QAt B 48 w' q cap U O ∧ Below B w w' :=
  (take_u_c B q cap U O x w h).mono fun _ _ h => ⟨h.1, h.2.1, h.2.2.1⟩
set_option maxRecDepth 100000 in
theorem take_o_c (B q cap : Nat) (O : List Value) (x : Value) (w : World) (h : QAt B 48 w q cap [] (x :: O)) :
    Calls Try.prog 11 #[.pointer (some ⟨q, 0, none⟩)] w fun e w' => e = .returned (.tuple #[x, .bool true]) ∧ QAt B 48 w' q cap [] O ∧ Below B w w' ∧ Cells w w' := by
  obtain ⟨a, b, hq, ha, hb, hab, hqa, hqb, hx, ⟨s1, r1, hA⟩, ⟨s2, r2, hO⟩⟩ := h
  have c0 : w.cell? ⟨q, 0, none⟩ = some (.chan (some a)) := by simp [World.cell?, hx]
  have c1 : w.cell? ⟨q, 1, none⟩ = some (.chan (some b)) := by simp [World.cell?, hx]
  refine calls_of_loneTo fun cs => ?_
  have e : Frame.enter Try.prog 11 #[.pointer (some ⟨q, 0, none⟩)] .normal = (base 11).at ⟨#[.pointer (some ⟨q, 0, none⟩), undef, undef, undef, undef, undef, undef, undef, undef, undef, undef, undef, undef, undef, undef, undef, undef, undef, undef, undef, undef, undef, undef, undef, undef, undef], []⟩ [.code (Try.f11.body.getD .skip)] := by
    simp [Frame.enter, Frame.at, Try.func11, base, Try.f11]
  rw [e]
  refine LoneTo.goes (n := 100) ?_
  simp only [Try.f11, Option.getD_some]
  repeat (first | s_c stepG_seq | s_c stepG_region_end | s_c stepG_block | s_c stepG_skip | s_c stepG_inBlock | s_exit | s_reg | s_op | s_c stepG_ret')
  s_stop
  refine LoneTo.step (step_lone_sel_default
    (stepG_comm (cases := #[rcase a (.int .i64 0)]) (blocking := false) (shape := .select) (w' := w) rfl rfl (by decide) (by simp [go_sem, execOp, rcase, Act.eval]))
    (fun cc hcc => ?_)) ?_
  · simp only [List.mem_toArray, List.mem_cons, List.not_mem_nil, or_false] at hcc
    subst hcc
    exact noWay_recv hA
  rw [Frame.finish_at, res_rd]
  walk_nrm
  refine LoneTo.goes (n := 100) ?_
  repeat (first | s_c stepG_seq | s_c stepG_region_end | s_c stepG_block | s_c stepG_skip | s_c stepG_inBlock | s_exit | s_reg | s_op | s_c stepG_ret')
  s_cond false
  repeat (first | s_c stepG_seq | s_c stepG_region_end | s_c stepG_block | s_c stepG_skip | s_c stepG_inBlock | s_exit | s_reg | s_op | s_c stepG_ret')
  s_stop
  refine LoneTo.step (step_lone_sel_recv_buf (k := 0) (c := b) (z := .int .i64 0) (cap := cap) (buf := (x :: O).toArray) (closed := false) (s := s2) (r := r2) (tm := false)
    (stepG_comm (cases := #[rcase b (.int .i64 0)]) (blocking := false) (shape := .select) (w' := w) rfl rfl (by decide) (by simp [go_sem, execOp, rcase, Act.eval]))
    rfl (fun m c' hm hc' => ?_) hO (by simp)) ?_
  · rcases m with _ | m
    · exact absurd rfl hm
    · simp at hc'
  rw [Frame.finish_at, res_r0]
  walk_nrm
  refine LoneTo.goes (n := 100) ?_
  repeat (first | s_c stepG_seq | s_c stepG_region_end | s_c stepG_block | s_c stepG_skip | s_c stepG_inBlock | s_exit | s_reg | s_op | s_c stepG_ret')
  s_cond true
  repeat (first | s_c stepG_seq | s_c stepG_region_end | s_c stepG_block | s_c stepG_skip | s_c stepG_inBlock | s_exit | s_reg | s_op | s_c stepG_ret')
  s_stop
  refine LoneTo.done ⟨.returned (.tuple #[x, .bool true]), _, rfl, ⟨rfl, ?_, ?_, ?_⟩, rfl, rfl, rfl, rfl, _, Try.func11, by simp [results, Try.f11, Frame.at]⟩
  · exact ⟨a, b, hq, ha, hb, hab, hqa, hqb, (setChan_other _ _ _ _ _ _ _ _ _ (Ne.symm hqb)).trans hx, ⟨s1, r1, (setChan_other _ _ _ _ _ _ _ _ _ (Ne.symm hab)).trans hA⟩, ⟨s2, r2 + 1, by rw [heap_setChan _ _ _ _ _ _ _ _ (lt_of_heap hO)]; try simp⟩⟩
  · exact below_setChan (Below.refl _ w) hb _ _ _ _ _ _
  · exact cells_setChan hO _ _ _ _ _ _
theorem take_o (B q cap : Nat) (O : List Value) (x : Value) (w : World) (h : QAt B 48 w q cap [] (x :: O)) :
    Calls Try.prog 11 #[.pointer (some ⟨q, 0, none⟩)] w fun e w' => e = .returned (.tuple #[x, .bool true]) ∧ QAt B 48 w' q cap [] O ∧ Below B w w' :=
  (take_o_c B q cap O x w h).mono fun _ _ h => ⟨h.1, h.2.1, h.2.2.1⟩
set_option maxRecDepth 100000 in
theorem take_n_c (B q cap : Nat)  (w : World) (h : QAt B 48 w q cap [] []) :
    Calls Try.prog 11 #[.pointer (some ⟨q, 0, none⟩)] w fun e w' => e = .returned (.tuple #[.int .i64 0, .bool false]) ∧ QAt B 48 w' q cap [] [] ∧ Below B w w' ∧ Cells w w' := by
  obtain ⟨a, b, hq, ha, hb, hab, hqa, hqb, hx, ⟨s1, r1, hA⟩, ⟨s2, r2, hO⟩⟩ := h
  have c0 : w.cell? ⟨q, 0, none⟩ = some (.chan (some a)) := by simp [World.cell?, hx]
  have c1 : w.cell? ⟨q, 1, none⟩ = some (.chan (some b)) := by simp [World.cell?, hx]
  refine calls_of_loneTo fun cs => ?_
  have e : Frame.enter Try.prog 11 #[.pointer (some ⟨q, 0, none⟩)] .normal = (base 11).at ⟨#[.pointer (some ⟨q, 0, none⟩), undef, undef, undef, undef, undef, undef, undef, undef, undef, undef, undef, undef, undef, undef, undef, undef, undef, undef, undef, undef, undef, undef, undef, undef, undef], []⟩ [.code (Try.f11.body.getD .skip)] := by
    simp [Frame.enter, Frame.at, Try.func11, base, Try.f11]
  rw [e]
  refine LoneTo.goes (n := 100) ?_
  simp only [Try.f11, Option.getD_some]
  repeat (first | s_c stepG_seq | s_c stepG_region_end | s_c stepG_block | s_c stepG_skip | s_c stepG_inBlock | s_exit | s_reg | s_op | s_c stepG_ret')
  s_stop
  refine LoneTo.step (step_lone_sel_default
    (stepG_comm (cases := #[rcase a (.int .i64 0)]) (blocking := false) (shape := .select) (w' := w) rfl rfl (by decide) (by simp [go_sem, execOp, rcase, Act.eval]))
    (fun cc hcc => ?_)) ?_
  · simp only [List.mem_toArray, List.mem_cons, List.not_mem_nil, or_false] at hcc
    subst hcc
    exact noWay_recv hA
  rw [Frame.finish_at, res_rd]
  walk_nrm
  refine LoneTo.goes (n := 100) ?_
  repeat (first | s_c stepG_seq | s_c stepG_region_end | s_c stepG_block | s_c stepG_skip | s_c stepG_inBlock | s_exit | s_reg | s_op | s_c stepG_ret')
  s_cond false
  repeat (first | s_c stepG_seq | s_c stepG_region_end | s_c stepG_block | s_c stepG_skip | s_c stepG_inBlock | s_exit | s_reg | s_op | s_c stepG_ret')
  s_stop
  refine LoneTo.step (step_lone_sel_default
    (stepG_comm (cases := #[rcase b (.int .i64 0)]) (blocking := false) (shape := .select) (w' := w) rfl rfl (by decide) (by simp [go_sem, execOp, rcase, Act.eval]))
    (fun cc hcc => ?_)) ?_
  · simp only [List.mem_toArray, List.mem_cons, List.not_mem_nil, or_false] at hcc
    subst hcc
    exact noWay_recv hO
  rw [Frame.finish_at, res_rd]
  walk_nrm
  refine LoneTo.goes (n := 100) ?_
  repeat (first | s_c stepG_seq | s_c stepG_region_end | s_c stepG_block | s_c stepG_skip | s_c stepG_inBlock | s_exit | s_reg | s_op | s_c stepG_ret')
  s_cond false
  repeat (first | s_c stepG_seq | s_c stepG_region_end | s_c stepG_block | s_c stepG_skip | s_c stepG_inBlock | s_exit | s_reg | s_op | s_c stepG_ret')
  s_stop
  refine LoneTo.done ⟨.returned (.tuple #[.int .i64 0, .bool false]), _, rfl, ⟨rfl, ?_, ?_, ?_⟩, rfl, rfl, rfl, rfl, _, Try.func11, by simp [results, Try.f11, Frame.at]⟩
  · exact ⟨a, b, hq, ha, hb, hab, hqa, hqb, hx, ⟨s1, r1, hA⟩, ⟨s2, r2, hO⟩⟩
  · exact Below.refl _ w
  · exact Cells.refl w
theorem take_n (B q cap : Nat)  (w : World) (h : QAt B 48 w q cap [] []) :
    Calls Try.prog 11 #[.pointer (some ⟨q, 0, none⟩)] w fun e w' => e = .returned (.tuple #[.int .i64 0, .bool false]) ∧ QAt B 48 w' q cap [] [] ∧ Below B w w' :=
  (take_n_c B q cap  w h).mono fun _ _ h => ⟨h.1, h.2.1, h.2.2.1⟩
set_option maxRecDepth 100000 in
theorem btake_u_c (B q cap : Nat) (U O : List Value) (x : Value) (w : World) (h : QAt B 53 w q cap (x :: U) O) :
    Calls Try.prog 22 #[.pointer (some ⟨q, 0, none⟩)] w fun e w' => e = .returned (.tuple #[x, .bool true]) ∧ QAt B 53 w' q cap U O ∧ Below B w w' ∧ Cells w w' := by
  obtain ⟨a, b, hq, ha, hb, hab, hqa, hqb, hx, ⟨s1, r1, hA⟩, ⟨s2, r2, hO⟩⟩ := h
  have c0 : w.cell? ⟨q, 0, none⟩ = some (.chan (some a)) := by simp [World.cell?, hx]
  have c1 : w.cell? ⟨q, 1, none⟩ = some (.chan (some b)) := by simp [World.cell?, hx]
  refine calls_of_loneTo fun cs => ?_
  have e : Frame.enter Try.prog 22 #[.pointer (some ⟨q, 0, none⟩)] .normal = (base 22).at ⟨#[.pointer (some ⟨q, 0, none⟩), undef, undef, undef, undef, undef, undef, undef, undef, undef, undef, undef, undef, undef, undef, undef, undef, undef, undef, undef, undef, undef, undef, undef, undef, undef], []⟩ [.code (Try.f22.body.getD .skip)] := by
    simp [Frame.enter, Frame.at, Try.func22, base, Try.f22]
  rw [e]
  refine LoneTo.goes (n := 100) ?_
  simp only [Try.f22, Option.getD_some]
  repeat (first | s_c stepG_seq | s_c stepG_region_end | s_c stepG_block | s_c stepG_skip | s_c stepG_inBlock | s_exit | s_reg | s_op | s_c stepG_ret')
  s_stop
  refine LoneTo.step (step_lone_sel_recv_buf (k := 0) (c := a) (z := .bool false) (cap := cap) (buf := (x :: U).toArray) (closed := false) (s := s1) (r := r1) (tm := false)
    (stepG_comm (cases := #[rcase a (.bool false)]) (blocking := false) (shape := .select) (w' := w) rfl rfl (by decide) (by simp [go_sem, execOp, rcase, Act.eval]))
    rfl (fun m c' hm hc' => ?_) hA (by simp)) ?_
  · rcases m with _ | m
    · exact absurd rfl hm
    · simp at hc'
  rw [Frame.finish_at, res_r0]
  walk_nrm
  refine LoneTo.goes (n := 100) ?_
  repeat (first | s_c stepG_seq | s_c stepG_region_end | s_c stepG_block | s_c stepG_skip | s_c stepG_inBlock | s_exit | s_reg | s_op | s_c stepG_ret')
  s_cond true
  repeat (first | s_c stepG_seq | s_c stepG_region_end | s_c stepG_block | s_c stepG_skip | s_c stepG_inBlock | s_exit | s_reg | s_op | s_c stepG_ret')
  s_stop
  refine LoneTo.done ⟨.returned (.tuple #[x, .bool true]), _, rfl, ⟨rfl, ?_, ?_, ?_⟩, rfl, rfl, rfl, rfl, _, Try.func22, by simp [results, Try.f22, Frame.at]⟩
  · exact ⟨a, b, hq, ha, hb, hab, hqa, hqb, (setChan_other _ _ _ _ _ _ _ _ _ (Ne.symm hqa)).trans hx, ⟨s1, r1 + 1, by rw [heap_setChan _ _ _ _ _ _ _ _ (lt_of_heap hA)]; try simp⟩, ⟨s2, r2, (setChan_other _ _ _ _ _ _ _ _ _ hab).trans hO⟩⟩
  · exact below_setChan (Below.refl _ w) ha _ _ _ _ _ _
  · exact cells_setChan hA _ _ _ _ _ _
theorem btake_u (B q cap : Nat) (U O : List Value) (x : Value) (w : World) (h : QAt B 53 w q cap (x :: U) O) :
    Calls Try.prog 22 #[.pointer (some ⟨q, 0, none⟩)] w fun e w' => e = .returned (.tuple #[x, .bool true]) ∧ QAt B 53 w' q cap U O ∧ Below B w w' :=
  (btake_u_c B q cap U O x w h).mono fun _ _ h => ⟨h.1, h.2.1, h.2.2.1⟩
set_option maxRecDepth 100000 in
theorem btake_o_c (B q cap : Nat) (O : List Value) (x : Value) (w : World) (h : QAt B 53 w q cap [] (x :: O)) :
    Calls Try.prog 22 #[.pointer (some ⟨q, 0, none⟩)] w fun e w' => e = .returned (.tuple #[x, .bool true]) ∧ QAt B 53 w' q cap [] O ∧ Below B w w' ∧ Cells w w' := by
  obtain ⟨a, b, hq, ha, hb, hab, hqa, hqb, hx, ⟨s1, r1, hA⟩, ⟨s2, r2, hO⟩⟩ := h
  have c0 : w.cell? ⟨q, 0, none⟩ = some (.chan (some a)) := by simp [World.cell?, hx]
  have c1 : w.cell? ⟨q, 1, none⟩ = some (.chan (some b)) := by simp [World.cell?, hx]
  refine calls_of_loneTo fun cs => ?_
  have e : Frame.enter Try.prog 22 #[.pointer (some ⟨q, 0, none⟩)] .normal = (base 22).at ⟨#[.pointer (some ⟨q, 0, none⟩), undef, undef, undef, undef, undef, undef, undef, undef, undef, undef, undef, undef, undef, undef, undef, undef, undef, undef, undef, undef, undef, undef, undef, undef, undef], []⟩ [.code (Try.f22.body.getD .skip)] := by
    simp [Frame.enter, Frame.at, Try.func22, base, Try.f22]
  rw [e]
  refine LoneTo.goes (n := 100) ?_
  simp only [Try.f22, Option.getD_some]
  repeat (first | s_c stepG_seq | s_c stepG_region_end | s_c stepG_block | s_c stepG_skip | s_c stepG_inBlock | s_exit | s_reg | s_op | s_c stepG_ret')
  s_stop
  refine LoneTo.step (step_lone_sel_default
    (stepG_comm (cases := #[rcase a (.bool false)]) (blocking := false) (shape := .select) (w' := w) rfl rfl (by decide) (by simp [go_sem, execOp, rcase, Act.eval]))
    (fun cc hcc => ?_)) ?_
  · simp only [List.mem_toArray, List.mem_cons, List.not_mem_nil, or_false] at hcc
    subst hcc
    exact noWay_recv hA
  rw [Frame.finish_at, res_rd]
  walk_nrm
  refine LoneTo.goes (n := 100) ?_
  repeat (first | s_c stepG_seq | s_c stepG_region_end | s_c stepG_block | s_c stepG_skip | s_c stepG_inBlock | s_exit | s_reg | s_op | s_c stepG_ret')
  s_cond false
  repeat (first | s_c stepG_seq | s_c stepG_region_end | s_c stepG_block | s_c stepG_skip | s_c stepG_inBlock | s_exit | s_reg | s_op | s_c stepG_ret')
  s_stop
  refine LoneTo.step (step_lone_sel_recv_buf (k := 0) (c := b) (z := .bool false) (cap := cap) (buf := (x :: O).toArray) (closed := false) (s := s2) (r := r2) (tm := false)
    (stepG_comm (cases := #[rcase b (.bool false)]) (blocking := false) (shape := .select) (w' := w) rfl rfl (by decide) (by simp [go_sem, execOp, rcase, Act.eval]))
    rfl (fun m c' hm hc' => ?_) hO (by simp)) ?_
  · rcases m with _ | m
    · exact absurd rfl hm
    · simp at hc'
  rw [Frame.finish_at, res_r0]
  walk_nrm
  refine LoneTo.goes (n := 100) ?_
  repeat (first | s_c stepG_seq | s_c stepG_region_end | s_c stepG_block | s_c stepG_skip | s_c stepG_inBlock | s_exit | s_reg | s_op | s_c stepG_ret')
  s_cond true
  repeat (first | s_c stepG_seq | s_c stepG_region_end | s_c stepG_block | s_c stepG_skip | s_c stepG_inBlock | s_exit | s_reg | s_op | s_c stepG_ret')
  s_stop
  refine LoneTo.done ⟨.returned (.tuple #[x, .bool true]), _, rfl, ⟨rfl, ?_, ?_, ?_⟩, rfl, rfl, rfl, rfl, _, Try.func22, by simp [results, Try.f22, Frame.at]⟩
  · exact ⟨a, b, hq, ha, hb, hab, hqa, hqb, (setChan_other _ _ _ _ _ _ _ _ _ (Ne.symm hqb)).trans hx, ⟨s1, r1, (setChan_other _ _ _ _ _ _ _ _ _ (Ne.symm hab)).trans hA⟩, ⟨s2, r2 + 1, by rw [heap_setChan _ _ _ _ _ _ _ _ (lt_of_heap hO)]; try simp⟩⟩
  · exact below_setChan (Below.refl _ w) hb _ _ _ _ _ _
  · exact cells_setChan hO _ _ _ _ _ _
theorem btake_o (B q cap : Nat) (O : List Value) (x : Value) (w : World) (h : QAt B 53 w q cap [] (x :: O)) :
    Calls Try.prog 22 #[.pointer (some ⟨q, 0, none⟩)] w fun e w' => e = .returned (.tuple #[x, .bool true]) ∧ QAt B 53 w' q cap [] O ∧ Below B w w' :=
  (btake_o_c B q cap O x w h).mono fun _ _ h => ⟨h.1, h.2.1, h.2.2.1⟩
set_option maxRecDepth 100000 in
theorem btake_n_c (B q cap : Nat)  (w : World) (h : QAt B 53 w q cap [] []) :
    Calls Try.prog 22 #[.pointer (some ⟨q, 0, none⟩)] w fun e w' => e = .returned (.tuple #[.bool false, .bool false]) ∧ QAt B 53 w' q cap [] [] ∧ Below B w w' ∧ Cells w w' := by
  obtain ⟨a, b, hq, ha, hb, hab, hqa, hqb, hx, ⟨s1, r1, hA⟩, ⟨s2, r2, hO⟩⟩ := h
  have c0 : w.cell? ⟨q, 0, none⟩ = some (.chan (some a)) := by simp [World.cell?, hx]
  have c1 : w.cell? ⟨q, 1, none⟩ = some (.chan (some b)) := by simp [World.cell?, hx]
  refine calls_of_loneTo fun cs => ?_
  have e : Frame.enter Try.prog 22 #[.pointer (some ⟨q, 0, none⟩)] .normal = (base 22).at ⟨#[.pointer (some ⟨q, 0, none⟩), undef, undef, undef, undef, undef, undef, undef, undef, undef, undef, undef, undef, undef, undef, undef, undef, undef, undef, undef, undef, undef, undef, undef, undef, undef], []⟩ [.code (Try.f22.body.getD .skip)] := by
    simp [Frame.enter, Frame.at, Try.func22, base, Try.f22]
  rw [e]
  refine LoneTo.goes (n := 100) ?_
  simp only [Try.f22, Option.getD_some]
  repeat (first | s_c stepG_seq | s_c stepG_region_end | s_c stepG_block | s_c stepG_skip | s_c stepG_inBlock | s_exit | s_reg | s_op | s_c stepG_ret')
  s_stop
  refine LoneTo.step (step_lone_sel_default
    (stepG_comm (cases := #[rcase a (.bool false)]) (blocking := false) (shape := .select) (w' := w) rfl rfl (by decide) (by simp [go_sem, execOp, rcase, Act.eval]))
    (fun cc hcc => ?_)) ?_
  · simp only [List.mem_toArray, List.mem_cons, List.not_mem_nil, or_false] at hcc
    subst hcc
    exact noWay_recv hA
  rw [Frame.finish_at, res_rd]
  walk_nrm
  refine LoneTo.goes (n := 100) ?_
  repeat (first | s_c stepG_seq | s_c stepG_region_end | s_c stepG_block | s_c stepG_skip | s_c stepG_inBlock | s_exit | s_reg | s_op | s_c stepG_ret')
  s_cond false
  repeat (first | s_c stepG_seq | s_c stepG_region_end | s_c stepG_block | s_c stepG_skip | s_c stepG_inBlock | s_exit | s_reg | s_op | s_c stepG_ret')
  s_stop
  refine LoneTo.step (step_lone_sel_default
    (stepG_comm (cases := #[rcase b (.bool false)]) (blocking := false) (shape := .select) (w' := w) rfl rfl (by decide) (by simp [go_sem, execOp, rcase, Act.eval]))
    (fun cc hcc => ?_)) ?_
  · simp only [List.mem_toArray, List.mem_cons, List.not_mem_nil, or_false] at hcc
    subst hcc
    exact noWay_recv hO
  rw [Frame.finish_at, res_rd]
  walk_nrm
  refine LoneTo.goes (n := 100) ?_
  repeat (first | s_c stepG_seq | s_c stepG_region_end | s_c stepG_block | s_c stepG_skip | s_c stepG_inBlock | s_exit | s_reg | s_op | s_c stepG_ret')
  s_cond false
  repeat (first | s_c stepG_seq | s_c stepG_region_end | s_c stepG_block | s_c stepG_skip | s_c stepG_inBlock | s_exit | s_reg | s_op | s_c stepG_ret')
  s_stop
  refine LoneTo.done ⟨.returned (.tuple #[.bool false, .bool false]), _, rfl, ⟨rfl, ?_, ?_, ?_⟩, rfl, rfl, rfl, rfl, _, Try.func22, by simp [results, Try.f22, Frame.at]⟩
  · exact ⟨a, b, hq, ha, hb, hab, hqa, hqb, hx, ⟨s1, r1, hA⟩, ⟨s2, r2, hO⟩⟩
  · exact Below.refl _ w
  · exact Cells.refl w
theorem btake_n (B q cap : Nat)  (w : World) (h : QAt B 53 w q cap [] []) :
    Calls Try.prog 22 #[.pointer (some ⟨q, 0, none⟩)] w fun e w' => e = .returned (.tuple #[.bool false, .bool false]) ∧ QAt B 53 w' q cap [] [] ∧ Below B w w' :=
  (btake_n_c B q cap  w h).mono fun _ _ h => ⟨h.1, h.2.1, h.2.2.1⟩
end Go.Proofs.Ytfogihnjeaeifaa
