/-
  THE WALK of rest: all words that are left, names of a kind.
-/
import Derived.Test.YtckbdnkonccmiaaDoorMatNames8
namespace Go.Proofs.YtckbdnkonccmiaaDoor
open Go.RowKit
def saidV (kn : Kn) (kind : Int) (x : ByteArray) : Int := match kn x with | some p => if p.1 = kind then p.2 else 0 | none => 0
def saidU (kn : Kn) (kind : Int) (x : ByteArray) (un : Bool) : Bool := match kn x with | some p => if p.1 = kind then un else true | none => true
theorem saidF_cons (kn : Kn) (kind : Int) (x : ByteArray) (t : List ByteArray) (un : Bool) : saidF kn kind (x :: t) false un = (saidV kn kind x, t, saidU kn kind x un) := by
  unfold saidF saidV saidU wordF
  rw [if_neg (by decide)]
  simp only
  cases kn x with
  | none => rfl
  | some p =>
    simp only
    split <;> rfl
def restGo (kn : Kn) (kind : Int) : List ByteArray → Bool → List Int × Bool
  | [], un => ([], un)
  | x :: t, un => (saidV kn kind x :: (restGo kn kind t (saidU kn kind x un)).1, (restGo kn kind t (saidU kn kind x un)).2)
def restF (kn : Kn) (kind : Int) (ls : List ByteArray) (wr un : Bool) : List Int × List ByteArray × Bool := if wr = true then ([], ls, un) else ((restGo kn kind ls un).1, [], (restGo kn kind ls un).2)
theorem int_info : (Tryd.prog.info? 3).map (fun i => (i.zero, i.size, i.bytes)) = some (some (.int .i64 0), 1, 8) := by kernel_rfl
theorem int_parts : ∃ i, Tryd.prog.info? 3 = some i ∧ i.zero = some (.int .i64 0) ∧ i.size = 1 ∧ i.bytes = 8 := by
  have h := int_info
  cases e : Tryd.prog.info? 3 with
  | none => rw [e] at h; cases h
  | some i =>
    rw [e] at h
    simp only [Option.map_some, Option.some.injEq, Prod.mk.injEq] at h
    exact ⟨i, rfl, h.1, h.2.1, h.2.2⟩
theorem reads_int (w : World) (g : Nat) (hg : w.heap.size = g) (x : Int) (t : TypeId) : Words.Reads (w.alloc (.cells #[.int .i64 x] t)) (g + 1) 1 (some ⟨g, 0, none⟩) 1 (nC x) := by
  subst hg
  exact LawFrame.reads_block (xs := nC x) (t := t) (heap_alloc_new w _) (by omega) rfl
theorem one_int (x : Int) : ∀ u ∈ nC x, u.oneCell' = true := by
  intro u hu
  simp only [nC, List.mem_singleton] at hu
  subst hu; rfl
/-- what rest leaves -/
def RestIs (c : RC) (ls : List ByteArray) (un : Bool) (l : List Int) (w : World) (e : Ending) (wr : Bool) (w' : World) : Prop := ∃ A n cp, e = .returned (.slice A n cp) ∧ n = l.length ∧ w'.ownsRow w.heap.size 3 1 (.slice A n cp) n (l.flatMap nC) ∧ RT c ls wr un w w'
set_option maxHeartbeats 4000000 in
set_option maxRecDepth 100000 in
theorem rest_any (c : RC) (kind : Int) (ls : List ByteArray) (wr un : Bool) (w : World) (h : RS c ls wr un w) (hl : ls.length ≤ 100000) (hz : ∀ s ∈ ls, s.size ≤ 1000000) :
    Calls Tryd.prog 75 #[.pointer (some ⟨c.g, 0, none⟩), .int .i64 kind] w fun e w' => RestIs c (restF c.kn kind ls wr un).2.1 (restF c.kn kind ls wr un).2.2 (restF c.kn kind ls wr un).1 w e wr w' := by
  cases wr with
  | true =>
    obtain ⟨vl, h⟩ := h
    have z13 : w.cell? ⟨c.g, 13, none⟩ = some (.bool true) := h.cell 13
    have HR := Lib.hid h
    clear h
    go_enter Tryd.func75, Tryd.ntmps75
    go_wp2_with fail
    go_loopw [5] (fun v wr => v = .slice none 0 0 ∧ Hid (w = wr)) (fun _ _ => 0)
    case atStart => exact ⟨rfl, Lib.hid rfl⟩
    case round =>
      obtain ⟨rfl, HX⟩ := hrel
      obtain rfl := HX.out
      go_wp2_with fail
      go_ret
      exact ⟨_, _, _, rfl, rfl, World.ownsRow_nil _ _ _ _, ⟨_, HR.out⟩, grown_refl _ _⟩
  | false =>
    have hgl : c.g < w.heap.size := by obtain ⟨vl, h1⟩ := h; exact h1.at_.blk.lt
    have HGL := Lib.hid hgl
    have H0 := Lib.hid h
    have HZ := Lib.hid hz
    obtain ⟨i0, hi0, hz0, hz1, hz2⟩ := int_parts
    have HSTART : Hid (restGo c.kn kind ls un = ([] ++ (restGo c.kn kind ls un).1, (restGo c.kn kind ls un).2)) := Lib.hid rfl
    clear h hgl hz
    go_enter Tryd.func75, Tryd.ntmps75
    go_wp2_with fail
    go_loopw [5] (fun v wx => ∃ (rem : List ByteArray) (un' : Bool) (acc : List Int) (A : Option Addr) (n cp : Nat), v = .slice A n cp ∧ n = acc.length ∧ acc.length + rem.length = ls.length ∧ Hid (restGo c.kn kind ls un = (acc ++ (restGo c.kn kind rem un').1, (restGo c.kn kind rem un').2) ∧ (∀ s ∈ rem, s ∈ ls)) ∧ Hid (wx.ownsRow w.heap.size 3 1 v n (acc.flatMap nC) ∧ RT c rem false un' w wx)) (fun v _ => ls.length - (match v with | .slice _ n _ => n | _ => 0))
    case atStart => exact ⟨ls, un, [], none, 0, 0, rfl, rfl, by simp, Lib.hid ⟨HSTART.out, fun s hs => hs⟩, Lib.hid ⟨World.ownsRow_nil _ _ _ _, H0.out, grown_refl _ _⟩⟩
    case round =>
      obtain ⟨rem, un', acc, A, n, cp, rfl, hn, hlen, HE, HV⟩ := hrel
      obtain ⟨hown, ⟨vl, hr⟩, hgr⟩ := HV.out
      have z13 : wr.cell? ⟨c.g, 13, none⟩ = some (.bool false) := hr.cell 13
      have z12 : wr.cell? ⟨c.g, 12, none⟩ = some vl := hr.cell 12
      obtain ⟨B, cl, e, hcl, -⟩ := id hr.left
      subst e
      have HR := Lib.hid hr
      have HOW := Lib.hid hown
      have HGR := Lib.hid hgr
      clear hr hown hgr HV
      cases rem with
      | nil =>
        have HF : Hid (restF c.kn kind ls false un = (acc, [], un')) := Lib.hid (by
          have h1 := HE.out.1
          unfold restF
          rw [if_neg (by decide), h1]
          simp [restGo])
        have HN := Lib.hid hn
        go_wp2_with fail
        go_ret
        rw [HF.out]
        exact ⟨_, _, _, rfl, HN.out, HOW.out, ⟨_, HR.out⟩, HGR.out⟩
      | cons x t =>
        have HE2 : Hid (restGo c.kn kind ls un = ((acc ++ [saidV c.kn kind x]) ++ (restGo c.kn kind t (saidU c.kn kind x un')).1, (restGo c.kn kind t (saidU c.kn kind x un')).2) ∧ ∀ s ∈ t, s ∈ ls) := Lib.hid ⟨by
          have h1 := HE.out.1
          rw [h1]
          simp [restGo], fun s hs => HE.out.2 s (List.mem_cons_of_mem _ hs)⟩
        have hsc := said_any c (x :: t) false un' wr kind ⟨_, HR.out⟩ (by omega) (fun s hs => HZ.out s (HE.out.2 s hs))
        rw [saidF_cons] at hsc
        obtain ⟨X, hX⟩ : ∃ X, X = saidV c.kn kind x := ⟨_, rfl⟩
        obtain ⟨U, hU⟩ : ∃ U, U = saidU c.kn kind x un' := ⟨_, rfl⟩
        rw [← hX, ← hU] at hsc HE2
        have HSC := Lib.hid hsc
        have HO := Lib.hid (one_int X)
        simp only [List.length_cons] at hcl hlen z12
        obtain ⟨q, hq⟩ : ∃ q, q = t.length + 1 := ⟨_, rfl⟩
        rw [← hq] at hcl hlen z12
        have hq0 : (0 : Int) < (q : Int) := by omega
        have HQ := Lib.hid hq
        have HLEN := Lib.hid hlen
        have hn3 : n ≤ 100000 := by omega
        have HWR : Hid (w.heap.size ≤ wr.heap.size) := Lib.hid HGR.out.size
        have HNN := Lib.hid hn
        clear hsc hX hU hq hlen hn
        go_wp2_with (first
          | (go_at_call 73; refine HSC.out.mono ?_; rintro e w1 ⟨rfl, ⟨vl1, h1⟩, hg1⟩; have HR1 := Lib.hid h1; have HG1 := Lib.hid hg1; clear h1 hg1)
          | (at_builtin; refine Words.wpList_append_any _ rfl (.tmp 21) (.tmp 25) _ rfl w.heap.size 3 i0 _ 1 8 Tryd.underlying41 hi0 hz0 hz1 hz2 rfl (by omega) (.slice A n cp) n (acc.flatMap nC) rfl ((HOW.out.kept HG1.out (by
              rcases h : (Value.slice A n cp).ownBlock with _ | b
              · exact .inl rfl
              · refine .inr (fun e => ?_)
                have h1 := (HOW.out.lt b h).1
                have h2 := HGL.out
                injection e with e
                omega)).alloc _) (w1.heap.size + 1) (some ⟨w1.heap.size, 0, none⟩) 1 1 (nC X) rfl (reads_int w1 _ rfl X _) HO.out (by simp only [maxLen]; omega) (by omega) (by have h1 := HWR.out; have h2 := HG1.out.size; simp; omega) ?_; intro v' w2 ho hg _; obtain ⟨A', c', rfl⟩ := own_form ho; have HO2 := Lib.hid ho; have HG2 := Lib.hid hg; clear ho hg))
        go_roundw
        case rel =>
          obtain ⟨vl0, h0⟩ := H0.out
          have hrow : ∀ k, (Value.slice A n cp).ownBlock = some k → w.heap.size ≤ k := fun k hk => (HOW.out.lt k hk).1
          refine ⟨t, U, acc ++ [X], A', n + 1, c', rfl, by rw [HNN.out]; simp, by have h1 := HLEN.out; have h2 := HQ.out; simp; omega, HE2, Lib.hid ⟨?_, ⟨_, h0.keepNew (HR1.out.alloc _) HG2.out hrow⟩, ?_⟩⟩
          · have := HO2.out
            simpa using this
          · exact grown_late (grown_trans (grown_trans HGR.out HG1.out) (World.grownBy_alloc _ _ _)) HG2.out hrow
        case measure =>
          have h1 := HLEN.out
          have h2 := HQ.out
          have h3 := HNN.out
          simp only
          omega
end Go.Proofs.YtckbdnkonccmiaaDoor
