/-
  THE WALK of the laws' own head: a live question.
-/
import Derived.Test.YtpgkiilikodbpaaRef
namespace Go.Proofs.Ytpgkiilikodbpaa
open Go.RowKit

theorem getElem?_flat : ∀ (l : List Inn) (i : Nat) (x : Inn), l[i]? = some x → (l.flatMap Inn.cells)[i * 3]? = some (.bool x.trip) ∧ (l.flatMap Inn.cells)[i * 3 + 1]? = some (.bool x.bad) ∧ (l.flatMap Inn.cells)[i * 3 + 2]? = some (.bool x.byp)
  | [], i, x, h => by simp at h
  | y :: l, 0, x, h => by
    simp only [List.getElem?_cons_zero, Option.some.injEq] at h
    subst h
    simp [Inn.cells]
  | y :: l, i + 1, x, h => by
    have := getElem?_flat l i x (by simpa using h)
    have e : (i + 1) * 3 = i * 3 + 3 := by omega
    simpa [e, Inn.cells, Nat.add_right_comm _ 3] using this
theorem InnAt.new {w : World} {cs : Array Value} {l : List Inn} {n b : Nat} (hl : l.length = n) (hb : b = w.heap.size) (hcs : cs.toList = l.flatMap Inn.cells) : InnAt (w.alloc (.cells cs 29)) l (.slice (some ⟨b, 0, none⟩) n n) := by
  subst hl hb
  refine ⟨_, _, rfl, Nat.le_refl _, fun _ => ⟨w.heap.size, 0, rfl, by simp, fun i x hi => ?_⟩⟩
  obtain ⟨h0, h1, h2⟩ := getElem?_flat l i x hi
  have hc : ∀ j, (w.alloc (.cells cs 29)).cell? ⟨w.heap.size, j, none⟩ = cs[j]? := fun j => cell_of_row _ _ _ _ _ _ (heap_alloc_new w _)
  simp only [hc, Nat.zero_add, ← Array.getElem?_toList, hcs]
  exact ⟨h0, h1, h2⟩
theorem Trips_is (b : Bool) (n : Int) (l : List Inn) (hb : tripsL n l = b) (v : Value) (w : World) (hl : l.length ≤ 5000) (h : InnAt w l v) :
    Calls Try.prog 13 #[.int .i64 n, v] w fun e w' => e = .returned (.bool b) ∧ Below w.heap.size w w' := by
  subst hb; exact Trips_any n l v w hl h
theorem Healthy_is (b : Bool) (n : Int) (l : List Inn) (hb : healthyL n l = b) (v : Value) (w : World) (hl : l.length ≤ 5000) (h : InnAt w l v) :
    Calls Try.prog 15 #[.int .i64 n, v] w fun e w' => e = .returned (.bool b) ∧ Below w.heap.size w w' := by
  subst hb; exact Healthy_any n l v w hl h
theorem Need_is (k : Int) (n : Int) (l : List Inn) (hb : needL n (cnt Inn.votes l) = k) (v : Value) (w : World) (hl : l.length ≤ 5000) (h : InnAt w l v) :
    Calls Try.prog 11 #[.int .i64 n, v] w fun e w' => e = .returned (.int .i64 k) ∧ Below w.heap.size w w' := by
  subst hb; exact Need_any n l v w hl h
theorem Yes_is (k : Int) (l : List Inn) (hb : (cnt Inn.yes l : Int) = k) (v : Value) (w : World) (hl : l.length ≤ 5000) (h : InnAt w l v) :
    Calls Try.prog 9 #[v] w fun e w' => e = .returned (.int .i64 k) ∧ Below w.heap.size w w' := by
  subst hb; exact Yes_any l v w hl h
/-- the four variables of the head -/
def Four (w : World) (B0 B1 B2 B3 : Nat) : Prop := (B0 < w.heap.size ∧ B1 < w.heap.size ∧ B2 < w.heap.size ∧ B3 < w.heap.size) ∧
  (w.cell? ⟨B0, 0, none⟩ = some (.bool true) ∧ w.cell? ⟨B0, 1, none⟩ = some (.bool false) ∧ w.cell? ⟨B0, 2, none⟩ = some (.bool false)) ∧
  (w.cell? ⟨B1, 0, none⟩ = some (.bool false) ∧ w.cell? ⟨B1, 1, none⟩ = some (.bool false) ∧ w.cell? ⟨B1, 2, none⟩ = some (.bool false)) ∧
  (w.cell? ⟨B2, 0, none⟩ = some (.bool false) ∧ w.cell? ⟨B2, 1, none⟩ = some (.bool true) ∧ w.cell? ⟨B2, 2, none⟩ = some (.bool false)) ∧
  (w.cell? ⟨B3, 0, none⟩ = some (.bool true) ∧ w.cell? ⟨B3, 1, none⟩ = some (.bool false) ∧ w.cell? ⟨B3, 2, none⟩ = some (.bool true))
theorem Four.below {w w' : World} {B0 B1 B2 B3 : Nat} (h : Four w B0 B1 B2 B3) {o : Obj} (hb : Below (w.alloc o).heap.size (w.alloc o) w') : Four w' B0 B1 B2 B3 := by
  obtain ⟨⟨s0, s1, s2, s3⟩, h0, h1, h2, h3⟩ := h
  have hs := hb.size
  simp only [World.size_alloc] at hs
  have key : ∀ b j v, b < w.heap.size → w.cell? ⟨b, j, none⟩ = some v → w'.cell? ⟨b, j, none⟩ = some v := fun b j v hlt hv => by
    rw [hb.cell (p := ⟨b, j, none⟩) (by simp; omega), World.cell?_alloc_lt w o _ hlt, hv]
  exact ⟨⟨by omega, by omega, by omega, by omega⟩, ⟨key _ _ _ s0 h0.1, key _ _ _ s0 h0.2.1, key _ _ _ s0 h0.2.2⟩, ⟨key _ _ _ s1 h1.1, key _ _ _ s1 h1.2.1, key _ _ _ s1 h1.2.2⟩, ⟨key _ _ _ s2 h2.1, key _ _ _ s2 h2.2.1, key _ _ _ s2 h2.2.2⟩, ⟨key _ _ _ s3 h3.1, key _ _ _ s3 h3.2.1, key _ _ _ s3 h3.2.2⟩⟩

def Y : Inn := ⟨true, false, false⟩
def N : Inn := ⟨false, false, false⟩
def B : Inn := ⟨false, true, false⟩
def P : Inn := ⟨true, false, true⟩

theorem head_any (w : World) : Calls Try.prog 8 #[] w fun e w' => e = .returned (.bool true) ∧ Below w.heap.size w w' := by
  go_enter Try.func8, Try.ntmps8
  go_wp2_with fail
  have F0 : Four ((((w.alloc (.cells #[.bool true, .bool false, .bool false] 29)).alloc (.cells #[.bool false, .bool false, .bool false] 29)).alloc (.cells #[.bool false, .bool true, .bool false] 29)).alloc (.cells #[.bool true, .bool false, .bool true] 29)) w.heap.size (w.heap.size + 1) (w.heap.size + 1 + 1) (w.heap.size + 1 + 1 + 1) := by
    refine ⟨⟨by go_size, by go_size, by go_size, by go_size⟩, ?_, ?_, ?_, ?_⟩ <;> refine ⟨?_, ?_, ?_⟩ <;> go_simp
  have HF0 := Lib.hid F0
  clear F0
  refine (Trips_is true 2 [Y, N, B] (by decide) _ _ (by decide) (InnAt.new rfl (by simp) rfl)).mono ?_
  rintro e w1 ⟨rfl, hb1⟩
  have F1 := HF0.out.below hb1
  have HF1 := Lib.hid F1
  have HB1 : Below w.heap.size w w1 := Below.trans (by go_grown) (hb1.mono (by go_size))
  have hz1 := HB1.size
  obtain ⟨⟨s0, s1, s2, s3⟩, ⟨p0, p1, p2⟩, ⟨q0, q1, q2⟩, ⟨r0, r1, r2⟩, t0, t1, t2⟩ := F1
  clear hb1 HF0
  go_wp2_with fail
  clear s0 s1 s2 s3 p0 p1 p2 q0 q1 q2 r0 r1 r2 t0 t1 t2
  refine (Trips_is false 2 [Y, N, N] (by decide) _ _ (by decide) (InnAt.new rfl (by simp) rfl)).mono ?_
  rintro e w2 ⟨rfl, hb2⟩
  have F2 := HF1.out.below hb2
  have HF2 := Lib.hid F2
  have HB2 : Below w.heap.size w w2 := Below.trans (by go_grown) (hb2.mono (by go_size))
  have hz2 := HB2.size
  obtain ⟨⟨s0, s1, s2, s3⟩, ⟨p0, p1, p2⟩, ⟨q0, q1, q2⟩, ⟨r0, r1, r2⟩, t0, t1, t2⟩ := F2
  clear hb2 HB1 HF1 hz1
  go_wp2_with fail
  clear s0 s1 s2 s3 p0 p1 p2 q0 q1 q2 r0 r1 r2 t0 t1 t2
  refine (Trips_is true 2 [Y, P] (by decide) _ _ (by decide) (InnAt.new rfl (by simp) rfl)).mono ?_
  rintro e w3 ⟨rfl, hb3⟩
  have F3 := HF2.out.below hb3
  have HF3 := Lib.hid F3
  have HB3 : Below w.heap.size w w3 := Below.trans (by go_grown) (hb3.mono (by go_size))
  have hz3 := HB3.size
  obtain ⟨⟨s0, s1, s2, s3⟩, ⟨p0, p1, p2⟩, ⟨q0, q1, q2⟩, ⟨r0, r1, r2⟩, t0, t1, t2⟩ := F3
  clear hb3 HB2 HF2 hz2
  go_wp2_with fail
  clear s0 s1 s2 s3 p0 p1 p2 q0 q1 q2 r0 r1 r2 t0 t1 t2
  refine (Trips_is false 1 [P] (by decide) _ _ (by decide) (InnAt.new rfl (by simp) rfl)).mono ?_
  rintro e w4 ⟨rfl, hb4⟩
  have F4 := HF3.out.below hb4
  have HF4 := Lib.hid F4
  have HB4 : Below w.heap.size w w4 := Below.trans (by go_grown) (hb4.mono (by go_size))
  have hz4 := HB4.size
  obtain ⟨⟨s0, s1, s2, s3⟩, ⟨p0, p1, p2⟩, ⟨q0, q1, q2⟩, ⟨r0, r1, r2⟩, t0, t1, t2⟩ := F4
  clear hb4 HB3 HF3 hz3
  go_wp2_with fail
  clear s0 s1 s2 s3 p0 p1 p2 q0 q1 q2 r0 r1 r2 t0 t1 t2
  refine (Need_is 1 2 [Y, P] (by decide) _ _ (by decide) (InnAt.new rfl (by simp) rfl)).mono ?_
  rintro e w5 ⟨rfl, hb5⟩
  have F5 := HF4.out.below hb5
  have HF5 := Lib.hid F5
  have HB5 : Below w.heap.size w w5 := Below.trans (by go_grown) (hb5.mono (by go_size))
  have hz5 := HB5.size
  obtain ⟨⟨s0, s1, s2, s3⟩, ⟨p0, p1, p2⟩, ⟨q0, q1, q2⟩, ⟨r0, r1, r2⟩, t0, t1, t2⟩ := F5
  clear hb5 HB4 HF4 hz4
  go_wp2_with fail
  clear s0 s1 s2 s3 p0 p1 p2 q0 q1 q2 r0 r1 r2 t0 t1 t2
  refine (Yes_is 2 [Y, B, P, N] (by decide) _ _ (by decide) (InnAt.new rfl (by simp) rfl)).mono ?_
  rintro e w6 ⟨rfl, hb6⟩
  have F6 := HF5.out.below hb6
  have HF6 := Lib.hid F6
  have HB6 : Below w.heap.size w w6 := Below.trans (by go_grown) (hb6.mono (by go_size))
  have hz6 := HB6.size
  obtain ⟨⟨s0, s1, s2, s3⟩, ⟨p0, p1, p2⟩, ⟨q0, q1, q2⟩, ⟨r0, r1, r2⟩, t0, t1, t2⟩ := F6
  clear hb6 HB5 HF5 hz5
  go_wp2_with fail
  clear s0 s1 s2 s3 p0 p1 p2 q0 q1 q2 r0 r1 r2 t0 t1 t2
  refine (Healthy_is true 2 [Y, N] (by decide) _ _ (by decide) (InnAt.new rfl (by simp) rfl)).mono ?_
  rintro e w7 ⟨rfl, hb7⟩
  have F7 := HF6.out.below hb7
  have HF7 := Lib.hid F7
  have HB7 : Below w.heap.size w w7 := Below.trans (by go_grown) (hb7.mono (by go_size))
  have hz7 := HB7.size
  obtain ⟨⟨s0, s1, s2, s3⟩, ⟨p0, p1, p2⟩, ⟨q0, q1, q2⟩, ⟨r0, r1, r2⟩, t0, t1, t2⟩ := F7
  clear hb7 HB6 HF6 hz6
  go_wp2_with fail
  clear s0 s1 s2 s3 p0 p1 p2 q0 q1 q2 r0 r1 r2 t0 t1 t2
  refine (Healthy_is false 2 [N, P] (by decide) _ _ (by decide) (InnAt.new rfl (by simp) rfl)).mono ?_
  rintro e w8 ⟨rfl, hb8⟩
  have F8 := HF7.out.below hb8
  have HF8 := Lib.hid F8
  have HB8 : Below w.heap.size w w8 := Below.trans (by go_grown) (hb8.mono (by go_size))
  have hz8 := HB8.size
  obtain ⟨⟨s0, s1, s2, s3⟩, ⟨p0, p1, p2⟩, ⟨q0, q1, q2⟩, ⟨r0, r1, r2⟩, t0, t1, t2⟩ := F8
  clear hb8 HB7 HF7 hz7
  go_wp2_with fail
  clear s0 s1 s2 s3 p0 p1 p2 q0 q1 q2 r0 r1 r2 t0 t1 t2
  go_ret
  exact ⟨rfl, HB8⟩
end Go.Proofs.Ytpgkiilikodbpaa
