/-
  VoteAll: of some that all vote, of which so many trip, it trips just if these are as many as must, and as many as there are at most; of none, and of those that are all bypassed, it does not. For every input, with no condition.
-/
import Derived.Test.YtpgkiilikodbpaaOwn2
import Derived.Test.YtpgkiilikodbpaaOpen
namespace Go.Proofs.Ytpgkiilikodbpaa
open Go.RowKit Go.ChangeShapes Go.WideShapes

/-- the i-th of those that vote yes, and those that do not -/
def yesAt (i : Nat) : Inn := ⟨i % 2 == 0, i % 2 == 1, false⟩
def madeL (k : Nat) : List Inn := (List.range k).map yesAt
def madeN (k j : Nat) : List Inn := madeL k ++ List.replicate j ⟨false, false, false⟩

theorem madeL_succ (k : Nat) : (madeL (k + 1)).flatMap Inn.cells = (madeL k).flatMap Inn.cells ++ [.bool ((k : Int) % 2 == 0), .bool ((k : Int) % 2 == 1), .bool false] := by
  unfold madeL
  rw [List.range_succ, List.map_append, List.flatMap_append]
  have h0 : ((k : Int) % 2 == 0) = (k % 2 == 0) := by rw [Bool.eq_iff_iff]; simp; omega
  have h1 : ((k : Int) % 2 == 1) = (k % 2 == 1) := by rw [Bool.eq_iff_iff]; simp; omega
  rw [h0, h1]
  simp [yesAt, Inn.cells]
theorem madeN_succ (k j : Nat) : (madeN k (j + 1)).flatMap Inn.cells = (madeN k j).flatMap Inn.cells ++ [.bool false, .bool false, .bool false] := by
  unfold madeN
  rw [List.replicate_succ', ← List.append_assoc, List.flatMap_append]
  rfl
theorem madeL_yes (k : Nat) : cnt Inn.yes (madeL k) = k ∧ cnt Inn.votes (madeL k) = k ∧ (madeL k).length = k := by
  induction k with
  | zero => exact ⟨rfl, rfl, rfl⟩
  | succ k ih =>
    obtain ⟨h1, h2, h3⟩ := ih
    have e : madeL (k + 1) = madeL k ++ [yesAt k] := by simp [madeL, List.range_succ]
    have hy : Inn.yes (yesAt k) = true := by
      have : k % 2 = 0 ∨ k % 2 = 1 := by omega
      rcases this with h | h <;> simp [yesAt, Inn.yes, h]
    have hv : Inn.votes (yesAt k) = true := rfl
    rw [e, cnt_append, cnt_append, h1, h2, List.length_append, h3]
    simp [cnt, hy, hv]
theorem cnt_none (p : Inn → Bool) (n : Nat) (x : Inn) : cnt p (List.replicate n x) = if p x then n else 0 := by
  unfold cnt
  induction n with
  | zero => simp
  | succ n ih => rw [List.replicate_succ, List.filter_cons]; split <;> simp_all
theorem madeN_len (k j : Nat) : (madeN k j).length = k + j := by simp [madeN, (madeL_yes k).2.2]
theorem madeN_votes (k j : Nat) : cnt Inn.votes (madeN k j) = k + j := by
  unfold madeN
  rw [cnt_append, (madeL_yes k).2.1, cnt_none]
  rfl
theorem madeN_yes (k j : Nat) : cnt Inn.yes (madeN k j) = k := by
  unfold madeN
  rw [cnt_append, (madeL_yes k).1, cnt_none]
  rfl
theorem cnt_byp (l : List Inn) (h : ∀ (q : Nat) (x : Inn), l[q]? = some x → x.byp = true) : cnt Inn.votes l = 0 := by
  unfold cnt
  rw [List.length_eq_zero_iff, List.filter_eq_nil_iff]
  intro x hx
  obtain ⟨q, hq⟩ := List.getElem?_of_mem hx
  simp [Inn.votes, h q x hq]
theorem all_cases (n k j : Nat) (L : List Inn) (hv : cnt Inn.votes L = k + j) (hy : cnt Inn.yes L = k) :
    (tripsL n L = true ∧ ((n < 1 ∧ 1 ≤ k + j ∧ 1 ≤ k) ∨ (1 ≤ n ∧ k + j < n ∧ j < 1 ∧ 1 ≤ k) ∨ (1 ≤ n ∧ n ≤ k + j ∧ n ≤ k))) ∨
    (tripsL n L = false ∧ ((n < 1 ∧ k + j < 1 ∧ k < 1) ∨ (1 ≤ n ∧ k + j < n ∧ k + j < 1) ∨ (n < 1 ∧ 1 ≤ k + j ∧ k < 1) ∨ (1 ≤ n ∧ k + j < n ∧ 1 ≤ j) ∨ (1 ≤ n ∧ n ≤ k + j ∧ k < n))) := by
  cases h : tripsL n L
  · right
    refine ⟨rfl, ?_⟩
    simp only [tripsL, hv, hy, needL, Bool.and_eq_false_iff, decide_eq_false_iff_not] at h
    omega
  · left
    refine ⟨rfl, ?_⟩
    simp only [tripsL, hv, hy, needL, Bool.and_eq_true, decide_eq_true_eq] at h
    omega
set_option maxHeartbeats 4000000 in
theorem all_walk (n y m : Nat) (w : World) (hn : n < 256) (hy : y < 256) (hm : m < 256) :
    Calls Try.prog 6 #[.int .u8 n, .int .u8 y, .int .u8 m] w fun e w' => e = .returned (.bool true) ∧ Below w.heap.size w w' := by
  go_enter Try.func6, Try.ntmps6
  go_wp2_with fail
  refine (head_any _).mono ?_
  rintro e w1 ⟨rfl, hb1⟩
  go_wp2_with fail
  go_loopw [8, 9] (fun v i wr => ∃ k : Nat, k ≤ y ∧ i = .int .i64 k ∧ wr.ownsRow w1.heap.size 29 3 v k ((madeL k).flatMap Inn.cells) ∧ Below w.heap.size w wr ∧ w1.heap.size ≤ wr.heap.size) (fun _ i _ => y + 1 - (intOf i).toNat)
  case atStart => exact ⟨0, Nat.zero_le _, rfl, World.ownsRow_nil _ _ _ _, hb1, Nat.le_refl _⟩
  case round =>
    obtain ⟨k, hk, rfl, hO, hB, hz⟩ := hrel
    have HO := Lib.hid hO
    clear hO
    by_cases hlt : k < y
    · go_wp2_with (at_builtin; refine wpList_append_one rfl (.tmp 21) (.tmp 29) rfl w1.heap.size k _ _ rfl HO.out [.bool ((k : Int) % 2 == 0), .bool ((k : Int) % 2 == 1), .bool false] rfl rfl (by simp [Value.oneCell']) (by omega) hz ?_; intro v2 w2 hO2 hb2)
      go_roundw
      case rel =>
        refine ⟨k + 1, by omega, by go_num, ?_, hB.trans (hb2.mono hb1.size), Nat.le_trans hz hb2.size⟩
        rw [madeL_succ]
        exact hO2
      case measure => simp [intOf]; omega
    · have hky : k = y := by omega
      subst hky
      clear hlt hk
      go_wp2_with fail
      go_loopw [8, 10] (fun v i wr => ∃ j : Nat, j ≤ m ∧ i = .int .i64 j ∧ wr.ownsRow w1.heap.size 29 3 v (k + j) ((madeN k j).flatMap Inn.cells) ∧ Below w.heap.size w wr ∧ w1.heap.size ≤ wr.heap.size) (fun _ i _ => m + 1 - (intOf i).toNat)
      case atStart => exact ⟨0, Nat.zero_le _, rfl, by simpa [madeN] using HO.out, hB, hz⟩
      case round =>
        clear HO hB hz
        obtain ⟨j, hj, rfl, hO, hB, hz⟩ := hrel
        have HO := Lib.hid hO
        clear hO
        by_cases hlt : j < m
        · go_wp2_with (at_builtin; refine wpList_append_one rfl (.tmp 37) (.tmp 39) rfl w1.heap.size (k + j) _ _ rfl HO.out [.bool false, .bool false, .bool false] rfl rfl (by simp [Value.oneCell']) (by omega) hz ?_; intro v2 w2 hO2 hb2)
          go_roundw
          case rel =>
            refine ⟨j + 1, by omega, by go_num, ?_, hB.trans (hb2.mono hb1.size), Nat.le_trans hz hb2.size⟩
            rw [madeN_succ]
            exact hO2
          case measure => simp [intOf]; omega
        · have hjm : j = m := by omega
          subst hjm
          clear hlt hj
          have hform : ∃ A c, u8 = .slice A (k + j) c := by
            rcases HO.out.2 with ⟨e, e2⟩ | ⟨g, cap, cur, e, _⟩
            · exact ⟨none, 0, by rw [e, e2]⟩
            · exact ⟨_, _, e⟩
          obtain ⟨A, c, rfl⟩ := hform
          obtain ⟨i0, hi0, hz0, hz1, hz2⟩ := info_parts inn_info
          obtain ⟨L, hL⟩ : ∃ L, L = madeN k j := ⟨_, rfl⟩
          have hLl : L.length = k + j := by rw [hL, madeN_len]
          have HIL := Lib.hid (innAt_of_owns (l := L) hLl.symm (by rw [hL]; exact HO.out))
          have HLV := Lib.hid (show cnt Inn.votes L = k + j by rw [hL, madeN_votes])
          have HLY := Lib.hid (show cnt Inn.yes L = k by rw [hL, madeN_yes])
          have HLl := Lib.hid hLl
          clear hL hLl HO
          go_wp2_with (at_make; refine wpList_make_full _ rfl (.tmp 42) (.tmp 42) 22 rfl wr.heap.size 29 i0 _ 3 Try.underlying22 hi0 hz0 hz1 .i64 .i64 _ _ (k + j) rfl rfl (by omega) (by omega) (by rw [hz2]; omega) (by simp only [maxLen]; omega) (Nat.le_refl _) ?_; intro w4 hO4 hg4)
          simp only [Value.cells, flat_zero] at hO4
          have hb4 : Below wr.heap.size wr w4 := Below.grown (Below.refl _ _) hg4 (Nat.le_refl _) (fun k hk => by cases hk)
          clear hi0 hz0 hz1 hz2
          go_wp2_with fail
          have hOw : Own w4 wr.heap.size wr.heap.size (k + j) (List.replicate (k + j) ⟨false, false, false⟩) := by unfold Own; rw [List.length_replicate]; exact hO4
          have HO4 := Lib.hid hOw
          clear hO4 hOw hg4
          go_loopw [12] (fun t w5 => ∃ (i : Nat) (o : List Inn), i ≤ k + j ∧ t = .int .i64 i ∧ o.length = k + j ∧ Own w5 wr.heap.size wr.heap.size (k + j) o ∧ (∀ q x, q < i → o[q]? = some x → x.byp = true) ∧ Below wr.heap.size wr w5) (fun t _ => k + j + 1 - (intOf t).toNat)
          case atStart => exact ⟨0, _, Nat.zero_le _, rfl, List.length_replicate, HO4.out, fun q x hq => absurd hq (by omega), hb4⟩
          case round =>
            clear HO4 hb4
            rename World => w5
            obtain ⟨i, o, hi, rfl, hol, hO, hby, hb5⟩ := hrel
            have HO := Lib.hid hO
            have HBY := Lib.hid hby
            have HOL := Lib.hid hol
            clear hO hby hol
            by_cases hlt : i < k + j
            · obtain ⟨x, hxL⟩ : ∃ x, L[i]? = some x := ⟨_, List.getElem?_eq_getElem (by rw [HLl.out]; exact hlt)⟩
              obtain ⟨y, hyo⟩ : ∃ y, o[i]? = some y := ⟨_, List.getElem?_eq_getElem (by rw [HOL.out]; exact hlt)⟩
              obtain ⟨A', c', hv, hcc, hm⟩ := HIL.out
              injection hv with hA e2 e3
              subst hA
              clear e2 e3
              obtain ⟨b, off, rfl, hbl, hcell⟩ := hm (by intro e; have := HLl.out; rw [e] at this; simp at this; omega)
              obtain ⟨x0, x1, x2⟩ := hcell i _ hxL
              have g0 := (hb5.cell (p := ⟨b, off + i * 3, none⟩) hbl).trans x0
              have g1 := (hb5.cell (p := ⟨b, off + i * 3 + 1, none⟩) hbl).trans x1
              have g2 := (hb5.cell (p := ⟨b, off + i * 3 + 2, none⟩) hbl).trans x2
              obtain ⟨y0, y1, y2⟩ := HO.out.cells hyo
              have f0 := HO.out.frozen (i * 3)
              have f1 := HO.out.frozen (i * 3 + 1)
              have f2 := HO.out.frozen (i * 3 + 2)
              clear hcell x0 x1 x2 hcc hm hxL hyo
              go_wp2_with fail
              go_roundw
              case rel =>
                have hio : i < o.length := by rw [HOL.out]; exact hlt
                have hO6 := (HO.out.set3 hio x.trip x.bad x.byp).set (k := i) (d := 2) (u := .bool true) (x := ⟨x.trip, x.bad, x.byp⟩) (y := ⟨x.trip, x.bad, true⟩) (by omega) (by simp [hio]) rfl
                refine ⟨i + 1, _, by omega, by go_num, by simp [HOL.out], hO6, fun q z hq hz => ?_, (((hb5.setCell (Nat.le_refl _) _).setCell (Nat.le_refl _) _).setCell (Nat.le_refl _) _).setCell (Nat.le_refl _) _⟩
                rcases Nat.lt_or_ge q i with h | h
                · rw [List.getElem?_set_ne (by omega), List.getElem?_set_ne (by omega)] at hz
                  exact HBY.out q z h hz
                · have : q = i := by omega
                  subst this
                  rw [List.getElem?_set_self (by simpa using hio)] at hz
                  injection hz with hz
                  rw [← hz]
              case measure => simp [intOf]; omega
            · have hik : i = k + j := by omega
              subst hik
              have hoV : cnt Inn.votes o = 0 := cnt_byp o (fun q z hz => HBY.out q z (by have := (List.getElem?_eq_some_iff.1 hz).1; rw [HOL.out] at this; exact this) hz)
              have HOT := Lib.hid (show tripsL n o = false by simp [tripsL, hoV])
              have HON := Lib.hid (show needL n (cnt Inn.votes o) = 0 by rw [hoV]; unfold needL; omega)
              have HNT := Lib.hid (show tripsL n [] = false by simp [tripsL, cnt])
              have hoi := HO.out.innAt
              rw [HOL.out] at hoi
              have HOI := Lib.hid hoi
              have HLI := Lib.hid (HIL.out.below hb5)
              have B5 := hB.trans (hb5.mono hB.size)
              have hol5 : o.length ≤ 5000 := by rw [HOL.out]; omega
              have hLl5 : L.length ≤ 5000 := by rw [HLl.out]; omega
              have hcs := all_cases n k j L HLV.out HLY.out
              have HHL := Lib.hid (show healthyL n L = !tripsL n L by unfold healthyL; rw [HLV.out, HLl.out]; simp)
              clear hoi hoV HO HIL hb5 HBY hlt hi hB
              rcases hcs with ⟨ht, ⟨a1, a2, a3⟩ | ⟨a1, a2, a3, a4⟩ | ⟨a1, a2, a3⟩⟩ | ⟨ht, ⟨a1, a2, a3⟩ | ⟨a1, a2, a3⟩ | ⟨a1, a2, a3⟩ | ⟨a1, a2, a3⟩ | ⟨a1, a2, a3⟩⟩
              all_goals
                have HT := Lib.hid ht
                rw [ht] at HHL
                clear ht
                go_wp2_with fail
                refine (Trips_is _ n L HT.out _ _ hLl5 HLI.out).mono ?_
                rintro e w6 ⟨rfl, hb6⟩
                have HOI6 := Lib.hid (HOI.out.below hb6)
                have HLI6 := Lib.hid (HLI.out.below hb6)
                have B6 := B5.trans (hb6.mono B5.size)
                clear hb6 B5 HOI HLI
                go_wp2_with fail
                refine (Trips_is _ n o HOT.out _ _ hol5 HOI6.out).mono ?_
                rintro e w7 ⟨rfl, hb7⟩
                have HOI7 := Lib.hid (HOI6.out.below hb7)
                have HLI7 := Lib.hid (HLI6.out.below hb7)
                have B7 := B6.trans (hb7.mono B6.size)
                clear hb7 B6 HOI6 HLI6
                go_wp2_with fail
                refine (Trips_is _ n [] HNT.out _ _ (by simp) ⟨none, 0, rfl, Nat.le_refl _, fun h => absurd rfl h⟩).mono ?_
                rintro e w8 ⟨rfl, hb8⟩
                have HOI8 := Lib.hid (HOI7.out.below hb8)
                have HLI8 := Lib.hid (HLI7.out.below hb8)
                have B8 := B7.trans (hb8.mono B7.size)
                clear hb8 B7 HOI7 HLI7
                go_wp2_with fail
                refine (Need_is _ n o HON.out _ _ hol5 HOI8.out).mono ?_
                rintro e w9 ⟨rfl, hb9⟩
                have HLI9 := Lib.hid (HLI8.out.below hb9)
                have B9 := B8.trans (hb9.mono B8.size)
                clear hb9 B8 HOI8 HLI8
                go_wp2_with fail
                refine (Healthy_is _ n L HHL.out _ _ hLl5 HLI9.out).mono ?_
                rintro e w10 ⟨rfl, hb10⟩
                have HLI10 := Lib.hid (HLI9.out.below hb10)
                have B10 := B9.trans (hb10.mono B9.size)
                clear hb10 B9 HLI9
                go_wp2_with fail
                refine (Trips_is _ n L HT.out _ _ hLl5 HLI10.out).mono ?_
                rintro e w11 ⟨rfl, hb11⟩
                have B11 := B10.trans (hb11.mono B10.size)
                clear hb11 B10
                go_wp2_with fail
                go_ret
                first | exact ⟨rfl, B11⟩ | exact ⟨ret_bool (by simp; omega), B11⟩
set_option maxRecDepth 100000 in
theorem all_lifted (os : Os) (started : os.Started) (H : Type) (enc : TypeId × Value → H) :
    ReturnsInHanded {} Try.checked os 6 .any (Rows.voteAllSpec.pre6 enc Try.prog Try.f6 Rows.voteAllRow.domain false) (Rows.voteAllSpec.post enc Try.prog Try.f6 false true false false) := by
  refine LawFrame.handed (C := Try.checked) (tb := 4) (by kernel_rfl) (by kernel_rfl) (by kernel_rfl) Try.underlying4 rfl (fun ds hd => ?_) own started (by kernel_rfl) Try.func6
    (ChangeSpec.witness6 (enc := enc) (C := Try.checked) false ⟨#[], #[.int .u8 0, .int .u8 0, .int .u8 0], []⟩ 8 (by kernel_rfl) (by kernel_rfl) (by kernel_rfl) (by kernel_rfl)) ?_
  · rw [Try.params6] at hd
    match ds, hd with
    | [d1, d2, d3], _ => rfl
  · intro W args ds before base hval hA hlt hsz
    rw [Try.params6] at hval hA
    obtain ⟨v0, vs0, d0, ds0, p0, q0, hargs, rfl, rfl, h0, r0⟩ := trodAll_cons hA
    obtain ⟨v1, vs1, d1, ds1, p1, q1, rfl, rfl, rfl, h1, r1⟩ := trodAll_cons r0
    obtain ⟨v2, vs2, d2, ds2, p2, q2, rfl, rfl, rfl, h2, r2⟩ := trodAll_cons r1
    obtain ⟨rfl, rfl, rfl⟩ := trodAll_nil r2
    obtain rfl : args = #[v0, v1, v2] := by cases args; simp_all
    obtain ⟨n, rfl, rfl, rfl, wn⟩ := open_int Try.underlying5 (hval 0 5 v0 rfl rfl) h0
    obtain ⟨y, rfl, rfl, rfl, wy⟩ := open_int Try.underlying5 (hval 1 5 v1 rfl rfl) h1
    obtain ⟨m, rfl, rfl, rfl, wm⟩ := open_int Try.underlying5 (hval 2 5 v2 rfl rfl) h2
    obtain ⟨n0, n1⟩ := bounds_u8 wn
    obtain ⟨y0, y1⟩ := bounds_u8 wy
    obtain ⟨m0, m1⟩ := bounds_u8 wm
    obtain ⟨n, rfl⟩ := Int.eq_ofNat_of_zero_le n0
    obtain ⟨y, rfl⟩ := Int.eq_ofNat_of_zero_le y0
    obtain ⟨m, rfl⟩ := Int.eq_ofNat_of_zero_le m0
    exact all_walk n y m W (by omega) (by omega) (by omega)
theorem all_holds : Rows.VoteAllSaid :=
  OpenClaim.holds_of_wide 6 Try.f6 rfl rfl rfl rfl rfl rfl rfl ⟨rfl, rfl, rfl, rfl, rfl⟩ rfl rfl rfl rfl rfl (by kernel_rfl) Try.func6 (by kernel_rfl)
    (of_decide_eq_true (by kernel_rfl)) (by unfold Func.isWrapper; first | (rw [if_pos (by decide +kernel)]; kernel_rfl) | (rw [if_neg (by decide +kernel)]; exact ⟨rfl, rfl⟩))
    (fun os started H enc _ => all_lifted os started H enc)
#print axioms all_holds
end Go.Proofs.Ytpgkiilikodbpaa
