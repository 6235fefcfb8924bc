/-
  THE WALK of the laws' great: is it too much?
-/
import Derived.Test.YthcgomfejibkhaaMbapPut
import Derived.LoopTactic
namespace Go.Proofs.Ythcgomfejibkhaa
open Go.RowKit Mbap

/-- a frame's cells -/
abbrev aduCells (p : Adu × Value) : List Value := [.int .u16 p.1.id, .int .u8 (p.1.unit.toNat : Int), p.2]
/-- a slice of frames -/
def FramesAt (w : World) (l : List Adu) (v : Value) : Prop := ∃ ps : List (Adu × Value), ps.map (·.1) = l ∧ LawFrame.RowsAt w 3 aduCells ps v ∧ ∀ p ∈ ps, BytesAt w p.1.pdu p.2 ∧ p.1.id < 65536 ∧ p.1.pdu.length ≤ 9223372036854775807
/-- how many bytes -/
def bytes (l : List Adu) : Nat := (l.map fun f => f.pdu.length).sum
theorem bytes_snoc (l : List Adu) (f : Adu) : bytes (l ++ [f]) = bytes l + f.pdu.length := by simp [bytes]
/-- too much? -/
def GreatIs (l : List Adu) (w : World) (e : Ending) (w' : World) : Prop := ∃ b, e = .returned (.bool b) ∧ w = w' ∧ (b = false → l.length + bytes l < 20000)
set_option maxRecDepth 100000 in
set_option maxHeartbeats 1000000 in
theorem great_any (l : List Adu) (v : Value) (w : World) (h : FramesAt w l v) (hl : l.length ≤ 9223372036854775807) :
    Calls Try.prog 11 #[v] w (GreatIs l w) := by
  obtain ⟨ps, rfl, hr, hp⟩ := h
  have hpl : (ps.map (·.1)).length = ps.length := by simp
  rw [hpl] at hl
  obtain ⟨A, c, rfl, hc, hm⟩ := hr
  have HM := Lib.hid hm
  have HP := Lib.hid hp
  clear hm hp hpl
  go_enter Try.func11, Try.ntmps11
  go_wp2
  go_loop [3, 4] (fun n i => ∃ k m : Nat, k ≤ ps.length ∧ m ≤ 9223372036854775807 ∧ i = .int .i64 k ∧ n = .int .i64 m ∧ Hid (m < 20000 → m = ps.length + bytes ((ps.take k).map (·.1)))) (fun _ i => ps.length - (intOf i).toNat)
  case atStart => exact ⟨0, ps.length, Nat.zero_le _, hl, rfl, rfl, fun _ => by simp [bytes]⟩
  case round =>
    obtain ⟨k, m, hk, hm, rfl, rfl, HR⟩ := hrel
    by_cases hlt : k < ps.length
    · by_cases hg : m < 20000
      · obtain ⟨b, off, rfl, hb, hx⟩ := HM.out (by intro e; subst e; simp at hlt)
        have hx2 := hx k ps[k] (List.getElem?_eq_getElem hlt) 2 _ rfl
        obtain ⟨A2, c2, hv2, hc2, -⟩ := (HP.out ps[k] (List.getElem_mem _)).1
        have hlen := (HP.out ps[k] (List.getElem_mem _)).2.2
        have HT := Lib.hid (show (ps.take (k + 1)).map (·.1) = (ps.take k).map (·.1) ++ [ps[k].1] by rw [List.take_succ_eq_append_getElem hlt, List.map_append]; rfl)
        rw [hv2] at hx2
        clear hv2 hx HM HP hc2 hm
        generalize hn : ps[k].1.pdu.length = n at *
        have HN := Lib.hid hn
        clear hn hlen
        by_cases hn2 : 20000 < n
        · have hmin : (20000 : Int) < (n : Int) := by omega
          go_wp2
          go_round
          case rel => exact ⟨k + 1, m + 20000, by omega, by omega, by go_num, by go_num, fun h => absurd h (by omega)⟩
          case measure => simp [intOf]; omega
        · have hmin : (n : Int) ≤ 20000 := by omega
          go_wp2
          go_round
          case rel => exact ⟨k + 1, m + n, by omega, by omega, by go_num, by go_num, fun h => by rw [HT.out, bytes_snoc, HN.out]; have := HR.out hg; omega⟩
          case measure => simp [intOf]; omega
      · clear HM HP
        go_wp2
        go_ret
        exact ⟨true, by simp_all, rfl, fun h => by cases h⟩
    · clear HM HP
      go_wp2
      go_ret
      refine ⟨decide (20000 ≤ (m : Int)), rfl, rfl, fun h => ?_⟩
      have h := HR.out (by simp at h; omega)
      rw [List.take_of_length_le (by omega)] at h
      rw [List.length_map]
      simp at *
      omega
end Go.Proofs.Ythcgomfejibkhaa
