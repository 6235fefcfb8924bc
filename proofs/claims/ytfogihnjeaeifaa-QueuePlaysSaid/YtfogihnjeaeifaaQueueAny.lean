/-
  A queue of numbers, whatever is in it: Put, Take, Drain, Many by plain functions over lists.
-/
import Derived.Test.YtfogihnjeaeifaaQueueHead
namespace Go.Proofs.Ytfogihnjeaeifaa
open Go.Conc Go.RowKit
/-- a number as a value -/
def nV (x : Int) : Value := .int .i64 x
def qput (n : Nat) (u : Bool) (x : Int) (s : List Int × List Int) : Bool × List Int × List Int :=
  match u with
  | true => if s.1.length < n then (true, s.1 ++ [x], s.2) else (false, s.1, s.2)
  | false => if s.2.length < n then (true, s.1, s.2 ++ [x]) else (false, s.1, s.2)
def qtake (s : List Int × List Int) : (Int × Bool) × List Int × List Int :=
  match s with
  | (x :: us, os) => ((x, true), us, os)
  | ([], x :: os) => ((x, true), [], os)
  | ([], []) => ((0, false), [], [])
/-- both rows within the room -/
def Fits (n : Nat) (s : List Int × List Int) : Prop := s.1.length ≤ n ∧ s.2.length ≤ n
theorem fits_put {n : Nat} {s : List Int × List Int} (h : Fits n s) (u : Bool) (x : Int) : Fits n (qput n u x s).2 := by
  obtain ⟨us, os⟩ := s
  obtain ⟨h1, h2⟩ := h
  unfold qput
  cases u
  · by_cases hc : os.length < n
    · simp only [hc, if_true]; exact ⟨h1, by simp; omega⟩
    · simp only [hc, if_false]; exact ⟨h1, h2⟩
  · by_cases hc : us.length < n
    · simp only [hc, if_true]; exact ⟨by simp; omega, h2⟩
    · simp only [hc, if_false]; exact ⟨h1, h2⟩
theorem fits_take {n : Nat} {s : List Int × List Int} (h : Fits n s) : Fits n (qtake s).2 := by
  obtain ⟨us, os⟩ := s
  obtain ⟨h1, h2⟩ := h
  unfold Fits
  rcases us with _ | ⟨x, us⟩
  · rcases os with _ | ⟨x, os⟩
    · exact ⟨h1, h2⟩
    · simp only [List.length_cons] at h2; simp only [qtake]; exact ⟨h1, by omega⟩
  · simp only [List.length_cons] at h1; simp only [qtake]; exact ⟨by omega, h2⟩
def QI (B : Nat) (w : World) (q n : Nat) (s : List Int × List Int) : Prop := QAt B 48 w q n (s.1.map nV) (s.2.map nV)
theorem QAt.low {B B' t q cap : Nat} {U O : List Value} {w : World} (h : QAt B t w q cap U O) (hB : B' ≤ B) : QAt B' t w q cap U O := by
  obtain ⟨a, b, h1, h2, h3, h⟩ := h
  exact ⟨a, b, by omega, by omega, by omega, h⟩
theorem put_any (B q n : Nat) (s : List Int × List Int) (u : Bool) (x : Int) (w : World) (h : QI B w q n s) :
    Calls Try.prog 15 #[.pointer (some ⟨q, 0, none⟩), .bool u, .int .i64 x] w fun e w' => e = .returned (.bool (qput n u x s).1) ∧ QI B w' q n (qput n u x s).2 ∧ Below B w w' ∧ Cells w w' := by
  obtain ⟨us, os⟩ := s
  unfold QI at *
  unfold qput
  cases u
  · by_cases hc : os.length < n
    · simp only [hc, if_true]
      refine (put_o_room_c B q n _ _ (nV x) w h (by simpa using hc)).mono ?_
      rintro e w' ⟨rfl, h1, h2, h3⟩
      exact ⟨rfl, by rw [List.map_append]; exact h1, h2, h3⟩
    · simp only [hc, if_false]
      refine (put_o_full_c B q n _ _ (nV x) w h (by simpa using hc)).mono ?_
      rintro e w' ⟨rfl, h1, h2, h3⟩
      exact ⟨rfl, h1, h2, h3⟩
  · by_cases hc : us.length < n
    · simp only [hc, if_true]
      refine (put_u_room_c B q n _ _ (nV x) w h (by simpa using hc)).mono ?_
      rintro e w' ⟨rfl, h1, h2, h3⟩
      exact ⟨rfl, by rw [List.map_append]; exact h1, h2, h3⟩
    · simp only [hc, if_false]
      refine (put_u_full_c B q n _ _ (nV x) w h (by simpa using hc)).mono ?_
      rintro e w' ⟨rfl, h1, h2, h3⟩
      exact ⟨rfl, h1, h2, h3⟩
theorem take_any (B q n : Nat) (s : List Int × List Int) (w : World) (h : QI B w q n s) :
    Calls Try.prog 11 #[.pointer (some ⟨q, 0, none⟩)] w fun e w' => e = .returned (.tuple #[.int .i64 (qtake s).1.1, .bool (qtake s).1.2]) ∧ QI B w' q n (qtake s).2 ∧ Below B w w' ∧ Cells w w' := by
  obtain ⟨us, os⟩ := s
  unfold QI at *
  rcases us with _ | ⟨x, us⟩
  · rcases os with _ | ⟨x, os⟩
    · exact take_n_c B q n w h
    · exact take_o_c B q n _ (nV x) w h
  · exact take_u_c B q n _ _ (nV x) w h
theorem drain_any (B q n : Nat) (s : List Int × List Int) (w : World) (h : QI B w q n s) (hs : s.1.length + s.2.length ≤ 1000) :
    Calls Try.prog 13 #[.pointer (some ⟨q, 0, none⟩)] w fun e w' => e = .returned (.int .i64 ((s.1.length + s.2.length : Nat) : Int)) ∧ QI B w' q n ([], []) ∧ Below B w w' ∧ Cells w w' := by
  have h0 := drain_c B q n (s.1.map nV) (s.2.map nV) w h (by simpa using hs)
  simp only [List.length_map] at h0
  exact h0
theorem many_any (B q n : Nat) (s : List Int × List Int) (w : World) (h : QI B w q n s) :
    Calls Try.prog 17 #[.pointer (some ⟨q, 0, none⟩)] w fun e w' => e = .returned (.tuple #[.int .i64 s.1.length, .int .i64 s.2.length]) ∧ QI B w' q n s ∧ Below B w w' ∧ Cells w w' := by
  have h0 := many_c B q n (s.1.map nV) (s.2.map nV) w h
  simp only [List.length_map] at h0
  exact h0
end Go.Proofs.Ytfogihnjeaeifaa
