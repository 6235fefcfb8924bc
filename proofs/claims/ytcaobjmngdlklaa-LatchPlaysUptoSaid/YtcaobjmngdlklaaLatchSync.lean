/-
  The document's latches answer as the program's, where they are the same latches as they are seen.
-/
import Derived.Test.YtcaobjmngdlklaaLatchRLoad
namespace Go.Proofs.Ytcaobjmngdlklaa
open Go.RowKit
theorem grps_get {s : LS} {i : Nat} {g : Int} (h : (grps s)[i]? = some g) : (grps s).getD i 0 = g := by rw [List.getD_eq_getElem?_getD, h]; rfl
theorem grps_len (s : LS) : (grps s).length = s.l.length := by simp [grps]
theorem seen_set (f : Int → Option Int) (k : Nat) (o : One) : (seen f k o).set = o.set := by
  unfold seen
  by_cases h : o.set = true
  · rw [if_pos h, h]
  · rw [if_neg h]; simpa using h
theorem others_view {s : LS} {g : Int} : Others (grps s) (view s) g (view s).length ↔ many s.l g ≠ 0 := by
  constructor
  · rintro ⟨j, y, h1, h2, h3, h4⟩
    rw [view_at] at h2
    rcases ho : s.l[j]? with _ | o
    · rw [ho] at h2; cases h2
    · rw [ho] at h2
      simp only [Option.map_some, Option.some.injEq] at h2
      subst h2
      rw [seen_set] at h3
      have hg : o.grp = g := by rw [← h4, List.getD_eq_getElem?_getD, grps_at, ho]; rfl
      have := many_pos ho h3 hg
      omega
  · intro h
    obtain ⟨j, o, ho, hs, hg⟩ := many_ex h
    refine ⟨j, seen s.first j o, by rw [view_len]; exact (List.getElem?_eq_some_iff.1 ho).1, by rw [view_at, ho]; rfl, by rw [seen_set]; exact hs, ?_⟩
    rw [List.getD_eq_getElem?_getD, grps_at, ho]
    exact hg
theorem ratL_view {s : LS} {k : Nat} {o : One} (ho : s.l[k]? = some o) : ratL (view s) k = seen s.first k o := by
  unfold ratL
  rw [if_pos (by omega), Int.toNat_natCast, List.getD_eq_getElem?_getD, view_at, ho]
  rfl
theorem RFirst_sync (B g : Nat) (s : LS) (w : World) (h : RAt B g (grps s) (view s) w) (hI : Inv s) (hL : s.l.length ≤ 1000000) (gr : Int) :
    Calls Try.prog 22 #[.pointer (some ⟨g, 0, none⟩), .int .i64 gr] w fun e w' => e = .returned (.tuple #[.int .i64 ((s.first gr).getD 0), .bool (s.first gr).isSome]) ∧ w = w' := by
  rcases hf : s.first gr with _ | f
  · refine RFirst_none B g _ _ w h (by rw [view_len, grps_len]) (by rw [view_len]; exact hL) gr (fun i y hy hyf e => ?_)
    have hgi : (grps s)[i]? = some gr := by
      rcases hx : (grps s)[i]? with _ | u
      · rw [grps_at] at hx
        rw [view_at] at hy
        rcases ho : s.l[i]? with _ | o
        · rw [ho] at hy; cases hy
        · rw [ho] at hx; cases hx
      · rw [grps_get hx] at e; rw [e]
    have := first_none hf i y hy hgi
    rw [hyf] at this
    cases this
  · obtain ⟨k, rfl, o, ho, hs, hg, hv, hu⟩ := first_some hI hf
    refine RFirst_some B g _ _ w h (by rw [view_len, grps_len]) (by rw [view_len]; exact hL) gr k _ hv rfl ?_ (fun i y hi hy hyf e => ?_)
    · rw [List.getD_eq_getElem?_getD, grps_at, ho]; exact hg
    · have hgi : (grps s)[i]? = some gr := by
        rcases hx : (grps s)[i]? with _ | u
        · rw [grps_at] at hx
          rw [view_at] at hy
          rcases ho : s.l[i]? with _ | o
          · rw [ho] at hy; cases hy
          · rw [ho] at hx; cases hx
        · rw [grps_get hx] at e; rw [e]
      have := hu i y hy hgi hyf
      omega
theorem RReset_sync (B g : Nat) (s : LS) (w : World) (h : RAt B g (grps s) (view s) w) (hB : B ≤ w.heap.size) (i : Int) :
    Calls Try.prog 11 #[.pointer (some ⟨g, 0, none⟩), .int .i64 i] w fun e w' => e = .returned (.bool (reset s i).1) ∧ RAt B g (grps (reset s i).2) (view (reset s i).2) w' ∧ ROth B w w' := by
  refine (RReset_any B g _ _ w h hB i).mono ?_
  rintro e w' ⟨h1, h2, h3⟩
  unfold rreset at h1 h2
  unfold reset
  rcases at_cases s i with ⟨hi, e0⟩ | ⟨k, o, rfl, ho, e0⟩
  · rw [e0]
    rw [if_neg (fun h => hi ⟨h.1, by have := h.2.1; rw [view_len] at this; exact this⟩)] at h1 h2
    exact ⟨h1, h2, h3⟩
  · rw [e0]
    simp only [Int.toNat_natCast]
    have hk : k < s.l.length := (List.getElem?_eq_some_iff.1 ho).1
    rw [ratL_view ho, seen_set] at h1 h2
    by_cases hs : o.set = true
    · rw [if_pos hs]
      rw [if_pos ⟨by omega, by rw [view_len]; omega, hs⟩] at h1 h2
      rw [Int.toNat_natCast] at h2
      rw [grps_cleared ho, view_cleared ho]
      exact ⟨h1, h2, h3⟩
    · rw [if_neg hs]
      rw [if_neg (fun h => hs h.2.2)] at h1 h2
      exact ⟨h1, h2, h3⟩
theorem RTrip_sync (B g : Nat) (s : LS) (w : World) (h : RAt B g (grps s) (view s) w) (hI : Inv s) (hL : s.l.length ≤ 1000000) (i now : Int) :
    Calls Try.prog 15 #[.pointer (some ⟨g, 0, none⟩), .int .i64 i, .int .i64 now] w fun e w' => e = .returned (.bool (trip s i now).1) ∧ RAt B g (grps (trip s i now).2) (view (trip s i now).2) w' ∧ ROth B w w' := by
  have hvl : (view s).length = (grps s).length := by rw [view_len, grps_len]
  have hvL : (view s).length ≤ 1000000 := by rw [view_len]; exact hL
  unfold trip
  rcases at_cases s i with ⟨hi, e0⟩ | ⟨k, o, rfl, ho, e0⟩
  · rw [e0]
    refine (RTrip_no B g _ _ w h i now (.inl (by rw [view_len]; exact hi))).mono ?_
    rintro e w' ⟨h1, rfl⟩
    exact ⟨h1, h, ROth.refl _⟩
  · rw [e0]
    simp only [Int.toNat_natCast]
    by_cases hs : o.set = true
    · rw [if_pos hs]
      refine (RTrip_no B g _ _ w h k now (.inr (by rw [ratL_view ho, seen_set]; exact hs))).mono ?_
      rintro e w' ⟨h1, rfl⟩
      exact ⟨h1, h, ROth.refl _⟩
    · rw [if_neg hs]
      have hs' : o.set = false := by simpa using hs
      have hx : (view s)[k]? = some (seen s.first k o) := by rw [view_at, ho]; rfl
      have hxs : (seen s.first k o).set = false := by rw [seen_set]; exact hs'
      have hgr : (grps s)[k]? = some o.grp := by rw [grps_at, ho]; rfl
      have hfk : s.first o.grp ≠ some (k : Int) := by
        intro e
        obtain ⟨_, _, o', ho', hs2, _⟩ := hI.first _ _ e
        rw [Int.toNat_natCast, ho] at ho'
        injection ho' with ho'
        rw [← ho', hs'] at hs2
        cases hs2
      rw [grps_tripped ho]
      rcases hf : s.first o.grp with _ | f
      · have hfn : ∀ (i : Nat) (y : Lat), (view s)[i]? = some y → y.first = true → (grps s).getD i 0 ≠ o.grp := by
          intro i y hy hyf e
          have hgi : (grps s)[i]? = some o.grp := by
            rcases hx : (grps s)[i]? with _ | u
            · rw [grps_at] at hx
              rw [view_at] at hy
              rcases ho : s.l[i]? with _ | o
              · rw [ho] at hy; cases hy
              · rw [ho] at hx; cases hx
            · rw [grps_get hx] at e; rw [e]
          have := first_none hf i y hy hgi
          rw [hyf] at this
          cases this
        by_cases hm : many s.l o.grp = 0
        · have hno : ¬ Others (grps s) (view s) o.grp (view s).length := fun h => (others_view.1 h) hm
          by_cases hg : o.grp = 0
          · rw [view_same ho now (fun h => h.1 hg) hfk]
            exact RTrip_a0 B g _ _ w h hvl hvL k now o.grp _ hx hxs hgr hfn hno hg
          · rw [view_lead ho now ⟨hg, (leads_none hI hg hf k now).2 hm⟩ hf]
            exact RTrip_a B g _ _ w h hvl hvL k now o.grp _ hx hxs hgr hfn hno hg
        · have hot : Others (grps s) (view s) o.grp (view s).length := others_view.2 hm
          rw [view_same ho now (fun h => hm ((leads_none hI h.1 hf k now).1 h.2)) hfk]
          exact RTrip_b B g _ _ w h hvl hvL k now o.grp _ hx hxs hgr hfn hot
      · obtain ⟨fn, rfl, oF, hoF, hsF, hgF, hvF, hu⟩ := first_some hI hf
        have hg : o.grp ≠ 0 := (hI.first _ _ hf).2.1
        have hot : Others (grps s) (view s) o.grp (view s).length := others_view.2 (by have := many_pos hoF hsF hgF; omega)
        have hgg : (grps s).getD fn 0 = o.grp := by rw [List.getD_eq_getElem?_getD, grps_at, hoF]; exact hgF
        have hfn : ∀ (i : Nat) (y : Lat), i < fn → (view s)[i]? = some y → y.first = true → (grps s).getD i 0 ≠ o.grp := by
          intro i y hi hy hyf e
          have hgi : (grps s)[i]? = some o.grp := by
            rcases hx : (grps s)[i]? with _ | u
            · rw [grps_at] at hx
              rw [view_at] at hy
              rcases ho : s.l[i]? with _ | o
              · rw [ho] at hy; cases hy
              · rw [ho] at hx; cases hx
            · rw [grps_get hx] at e; rw [e]
          have := hu i y hy hgi hyf
          omega
        have hld := leads_some hI hf (by rw [Int.toNat_natCast]; exact hoF) k now
        have hkf : k ≠ fn := by
          rintro rfl
          exact hfk hf
        by_cases hat : oF.at_ = now
        · by_cases hlt : k < fn
          · rw [view_flip hI ho hs' now ⟨hg, hld.2 ⟨hat, by omega⟩⟩ hf hoF]
            have hz : (⟨true, oF.at_, false⟩ : Lat) = ⟨(⟨true, oF.at_, true⟩ : Lat).set, (⟨true, oF.at_, true⟩ : Lat).at_, false⟩ := rfl
            exact RTrip_c B g _ _ w h hvl hvL k now o.grp _ hx hxs hgr fn ⟨true, oF.at_, true⟩ hvF rfl hgg hfn hot hg hat hlt
          · rw [view_same ho now (fun h => by have := (hld.1 h.2).2; omega) hfk]
            exact RTrip_d2 B g _ _ w h hvl hvL k now o.grp _ hx hxs hgr fn ⟨true, oF.at_, true⟩ hvF rfl hgg hfn hot hat (by omega)
        · rw [view_same ho now (fun h => hat (hld.1 h.2).1) hfk]
          exact RTrip_d1 B g _ _ w h hvl hvL k now o.grp _ hx hxs hgr fn ⟨true, oF.at_, true⟩ hvF rfl hgg hfn hot hat
theorem grps_trip {s : LS} (i now : Int) : grps (trip s i now).2 = grps s := by
  unfold trip
  rcases at_cases s i with ⟨hi, e⟩ | ⟨k, o, rfl, ho, e⟩
  · rw [e]
  · rw [e]
    simp only [Int.toNat_natCast]
    by_cases hs : o.set = true
    · rw [if_pos hs]
    · rw [if_neg hs]; exact grps_tripped ho now
theorem grps_reset {s : LS} (i : Int) : grps (reset s i).2 = grps s := by
  unfold reset
  rcases at_cases s i with ⟨hi, e⟩ | ⟨k, o, rfl, ho, e⟩
  · rw [e]
  · rw [e]
    simp only [Int.toNat_natCast]
    by_cases hs : o.set = true
    · rw [if_pos hs]; exact grps_cleared ho
    · rw [if_neg hs]
theorem atL_ratL (s : LS) (i : Int) : ratL (view s) i = atL s i := by
  unfold atL
  rcases at_cases s i with ⟨hi, e⟩ | ⟨k, o, rfl, ho, e⟩
  · rw [e]
    rcases rat_cases (view s) i with ⟨_, e2⟩ | ⟨k, x, rfl, hx, e2⟩
    · exact e2
    · exfalso
      apply hi
      have := (List.getElem?_eq_some_iff.1 hx).1
      rw [view_len] at this
      omega
  · rw [e, ratL_view ho]
    rfl
end Go.Proofs.Ytcaobjmngdlklaa
