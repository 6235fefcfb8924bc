/-
  The fixed text: its lines.
-/
import Derived.Test.YtbpenoelmangkaaParLines
namespace Go.Proofs.Ytbpenoelmangkaa
open Go.RowKit
def textB : ByteArray := ⟨#[119, 97, 116, 99, 104, 32, 49, 32, 51, 32, 53, 32, 52, 10, 107, 101, 121, 32, 48, 49, 50, 51, 52, 53, 54, 55, 56, 57, 97, 98, 99, 100, 101, 102, 10, 100, 101, 118, 105, 99, 101, 32, 100, 32, 48, 32, 49, 10, 112, 111, 105, 110, 116, 32, 112, 32, 100, 32, 48, 32, 49, 32, 50, 32, 48, 10, 112, 111, 105, 110, 116, 32, 113, 32, 100, 32, 49, 32, 49, 32, 48, 32, 48, 10, 99, 97, 117, 115, 101, 32, 99, 32, 49, 32, 97, 32, 53, 48, 32, 112, 32, 113, 10, 101, 102, 102, 101, 99, 116, 32, 101, 32, 100, 32, 51, 32, 48, 32, 99, 10]⟩
def lineOk (s : ByteArray) : Bool := s.data.toList.all (fun c => c != 35 && (c == 32 || letterB c)) && decide (s.size ≤ 4096) && (List.range (s.size + 1)).all (fun i => decide (i - (wst s i).1 ≤ 16)) && decide ((wordsF s).length ≤ 14)
theorem LineP.of {s : ByteArray} (h : lineOk s = true) : LineP s := by
  unfold lineOk at h
  simp only [Bool.and_eq_true, decide_eq_true_eq, List.all_eq_true] at h
  obtain ⟨⟨⟨h1, h2⟩, h3⟩, h4⟩ := h
  refine ⟨fun c hc => ?_, h2, fun i hi => h3 i (List.mem_range.2 hi), h4⟩
  have := h1 c hc
  simpa using this
def textOk (s : ByteArray) : Bool := decide (s.size ≤ 4096) && (List.range (s.size + 1)).all (fun i => !isEnd s i || lineOk (s.extract (lst s i).1 i))
theorem TextP.of {s : ByteArray} (h : textOk s = true) : TextP s := by
  unfold textOk at h
  simp only [Bool.and_eq_true, decide_eq_true_eq, List.all_eq_true] at h
  refine ⟨h.1, fun i hi he => LineP.of ?_⟩
  have := h.2 i (List.mem_range.2 hi)
  rw [he] at this
  simpa using this
def textL : List (Int × List ByteArray) := [(1, [⟨#[119, 97, 116, 99, 104]⟩, ⟨#[49]⟩, ⟨#[51]⟩, ⟨#[53]⟩, ⟨#[52]⟩]), (2, [⟨#[107, 101, 121]⟩, ⟨#[48, 49, 50, 51, 52, 53, 54, 55, 56, 57, 97, 98, 99, 100, 101, 102]⟩]), (3, [⟨#[100, 101, 118, 105, 99, 101]⟩, ⟨#[100]⟩, ⟨#[48]⟩, ⟨#[49]⟩]), (4, [⟨#[112, 111, 105, 110, 116]⟩, ⟨#[112]⟩, ⟨#[100]⟩, ⟨#[48]⟩, ⟨#[49]⟩, ⟨#[50]⟩, ⟨#[48]⟩]), (5, [⟨#[112, 111, 105, 110, 116]⟩, ⟨#[113]⟩, ⟨#[100]⟩, ⟨#[49]⟩, ⟨#[49]⟩, ⟨#[48]⟩, ⟨#[48]⟩]), (6, [⟨#[99, 97, 117, 115, 101]⟩, ⟨#[99]⟩, ⟨#[49]⟩, ⟨#[97]⟩, ⟨#[53, 48]⟩, ⟨#[112]⟩, ⟨#[113]⟩]), (7, [⟨#[101, 102, 102, 101, 99, 116]⟩, ⟨#[101]⟩, ⟨#[100]⟩, ⟨#[51]⟩, ⟨#[48]⟩, ⟨#[99]⟩])]
theorem text_lines : linesF textB = textL := by decide +kernel
theorem text_ok : TextP textB := TextP.of (by decide +kernel)
end Go.Proofs.Ytbpenoelmangkaa
