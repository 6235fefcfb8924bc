/-
  Load, walked.
-/
import Derived.Test.YtcaobjmngdlklaaLoadPlain
namespace Go.Proofs.Ytcaobjmngdlklaa
open Go.RowKit
/-- what stands at the head of the first loop's round -/
def LI (gs : List Int) (l : List Lat) (k : Nat) (f c : Int → Option Int) (w wr : World) : Prop :=
  (MapAt wr w.heap.size k f ∧ MapAt wr (w.heap.size + 1) k c ∧ Below w.heap.size w wr) ∧ FOK gs l k f ∧ COK gs l k c ∧ okUpto gs l k
theorem LI.below {gs : List Int} {l : List Lat} {k : Nat} {f c : Int → Option Int} {w wr w' : World} (h : LI gs l k f c w wr) (hb : Below wr.heap.size wr w') : LI gs l k f c w w' :=
  ⟨⟨h.1.1.block (hb.block _ h.1.1.lt), h.1.2.1.block (hb.block _ h.1.2.1.lt), h.1.2.2.trans (hb.mono h.1.2.2.size)⟩, h.2⟩
/-- .. behind the count: one more counted, none more first -/
def LC (gs : List Int) (l : List Lat) (k q : Nat) (t : Int) (b : Bool) (f c : Int → Option Int) (w wr : World) : Prop :=
  (MapAt wr w.heap.size k f ∧ MapAt wr (w.heap.size + 1) (k + 1) c ∧ Below w.heap.size w wr) ∧ (FOK gs l k f ∧ COK gs l (k + 1) c ∧ okUpto gs l k) ∧ Words.Blk wr q 37 #[.bool true, .int .i64 t, .bool b]
theorem grps_getD {s : LS} {k : Nat} {o : One} (ho : s.l[k]? = some o) : (grps s).getD k 0 = o.grp := by rw [List.getD_eq_getElem?_getD, grps_at, ho]; rfl
theorem lc_zero {gs : List Int} {l : List Lat} {k : Nat} {f c : Int → Option Int} {w wr : World} {t : Int} {b : Bool} (h : LI gs l k f c w wr) (hx : l[k]? = some ⟨true, t, b⟩) (hg : gs.getD k 0 = 0) :
    LC gs l k wr.heap.size t b f c w (wr.alloc (.cells #[.bool true, .int .i64 t, .bool b] 37)) := by
  have hb : Below wr.heap.size wr (wr.alloc (.cells #[.bool true, .int .i64 t, .bool b] 37)) := (Below.refl _ _).alloc (Nat.le_refl _) _
  have h' := h.below hb
  exact ⟨⟨h'.1.1, h'.1.2.1.mono (by omega), h'.1.2.2⟩, ⟨h.2.1, cok_no h.2.2.1 hx (.inr hg), h.2.2.2⟩, Words.Blk.new _ _ _⟩
theorem lc_put {gs : List Int} {l : List Lat} {k : Nat} {f c : Int → Option Int} {w wr w' : World} {t g : Int} {b : Bool} (h : LI gs l k f c w wr) (hx : l[k]? = some ⟨true, t, b⟩) (hg : gs.getD k 0 = g) (h0 : g ≠ 0)
    (hm : MapAt w' (w.heap.size + 1) (k + 1) (upd c g (some ((c g).getD 0 + 1)))) (hgr : (wr.alloc (.cells #[.bool true, .int .i64 t, .bool b] 37)).grownBy w' (some (w.heap.size + 1))) :
    LC gs l k wr.heap.size t b f (upd c g (some ((c g).getD 0 + 1))) w w' := by
  have hb : Below wr.heap.size wr (wr.alloc (.cells #[.bool true, .int .i64 t, .bool b] 37)) := (Below.refl _ _).alloc (Nat.le_refl _) _
  have h' := h.below hb
  have hne : w.heap.size + 1 < wr.heap.size := h.1.2.1.lt
  refine ⟨⟨h'.1.1.block (hgr.block _ h'.1.1.lt (by simp)), hm, h'.1.2.2.grown hgr (by have := h.1.2.2.size; simp; omega) (fun k hk => by injection hk with hk; omega)⟩, ⟨h.2.1, ?_, h.2.2.2⟩, (Words.Blk.new wr 37 #[.bool true, .int .i64 t, .bool b]).grown hgr (by simp; omega)⟩
  subst hg
  exact cok_yes h.2.2.1 hx rfl h0
/-- a first one more -/
theorem lc_first {gs : List Int} {l : List Lat} {k q : Nat} {f c : Int → Option Int} {w wr w' : World} {t g : Int} (h : LC gs l k q t true f c w wr) (hx : l[k]? = some ⟨true, t, true⟩) (hg : gs.getD k 0 = g) (h0 : g ≠ 0) (hn : f g = none)
    (hm : MapAt w' w.heap.size (k + 1) (upd f g (some (k : Int)))) (hgr : wr.grownBy w' (some w.heap.size)) : LI gs l (k + 1) (upd f g (some (k : Int))) c w w' := by
  subst hg
  refine ⟨⟨hm, h.1.2.1.block (hgr.block _ h.1.2.1.lt (by simp)), h.1.2.2.grown hgr h.1.2.2.size (fun k hk => by injection hk with hk; omega)⟩, fok_yes h.2.1.1 hx rfl hn, h.2.1.2.1, okUpto_step h.2.1.2.2 hx (okAt_first h.2.1.1 rfl (fun _ => h0) (fun _ => hn))⟩
/-- none more -/
theorem lc_none {gs : List Int} {l : List Lat} {k q : Nat} {f c : Int → Option Int} {w wr : World} {t : Int} (h : LC gs l k q t false f c w wr) (hx : l[k]? = some ⟨true, t, false⟩) : LI gs l (k + 1) f c w wr :=
  ⟨⟨h.1.1.mono (by omega), h.1.2.1, h.1.2.2⟩, fok_no h.2.1.1 hx rfl, h.2.1.2.1, okUpto_step h.2.1.2.2 hx (okAt_first h.2.1.1 rfl (fun e => by cases e) (fun e => by cases e))⟩
/-- one that is none -/
theorem li_zero {gs : List Int} {l : List Lat} {k : Nat} {f c : Int → Option Int} {w wr : World} (h : LI gs l k f c w wr) (hx : l[k]? = some ⟨false, 0, false⟩) : LI gs l (k + 1) f c w wr :=
  ⟨⟨h.1.1.mono (by omega), h.1.2.1.mono (by omega), h.1.2.2⟩, fok_no h.2.1 hx rfl, cok_no h.2.2.1 hx (.inl rfl), okUpto_step h.2.2.2 hx ⟨fun _ => rfl, fun e => by cases e⟩⟩
def LoadPost (gs : List Int) (l : List Lat) (B g : Nat) (v : Value) (m1 m2 N : Nat) (s : LS) (w : World) (e : Ending) (w' : World) : Prop :=
  (e = .returned (.bool true) ∧ Valid gs l ∧ ∃ (f c : Int → Option Int) (m1' m2' : Nat), FOK gs l l.length f ∧ COK gs l l.length c ∧ LAt B g v m1' m2' (N + l.length) (loaded gs l f c) w' ∧ Foot g v m1 m2 w w') ∨
  (e = .returned (.bool false) ∧ ¬ Valid gs l ∧ LAt B g v m1 m2 N s w' ∧ Foot g v m1 m2 w w')
theorem load_no {gs : List Int} {l : List Lat} {B g : Nat} {v : Value} {m1 m2 N : Nat} {s : LS} {w w' : World} (h : LAt B g v m1 m2 N s w) (hnv : ¬ Valid gs l) (hb : Below w.heap.size w w') : LoadPost gs l B g v m1 m2 N s w (.returned (.bool false)) w' :=
  .inr ⟨rfl, hnv, h.below hb, Foot.below0 hb⟩
/-- what stands at the head of the second loop's round: so many are laid -/
def LJ (gs : List Int) (l : List Lat) (B g : Nat) (v : Value) (m1 m2 N : Nat) (s : LS) (f c : Int → Option Int) (k : Nat) (w wx : World) : Prop :=
  (∃ S : List One, LAt B g v m1 m2 N ⟨S, s.first, s.cnt⟩ wx ∧ S.length = l.length ∧ (∀ i, i < k → S[i]? = (ones gs l)[i]?) ∧ (∀ i, k ≤ i → S[i]? = s.l[i]?)) ∧ (MapAt wx w.heap.size l.length f ∧ MapAt wx (w.heap.size + 1) l.length c) ∧ Foot g v m1 m2 w wx
theorem lj_start {gs : List Int} {l : List Lat} {B g : Nat} {v : Value} {m1 m2 N : Nat} {s : LS} {f c : Int → Option Int} {w wr : World} (h : LAt B g v m1 m2 N s w) (hn : l.length = s.l.length) (hI : LI gs l l.length f c w wr) : LJ gs l B g v m1 m2 N s f c 0 w wr :=
  ⟨⟨s.l, h.below hI.1.2.2, hn.symm, fun i hi => by omega, fun i _ => rfl⟩, ⟨hI.1.1, hI.1.2.1⟩, Foot.below0 hI.1.2.2⟩
theorem LJ.below {gs : List Int} {l : List Lat} {B g : Nat} {v : Value} {m1 m2 N k : Nat} {s : LS} {f c : Int → Option Int} {w wx w' : World} (h : LJ gs l B g v m1 m2 N s f c k w wx) (hb : Below wx.heap.size wx w') : LJ gs l B g v m1 m2 N s f c k w w' := by
  obtain ⟨⟨S, h0, h1⟩, h2, h3⟩ := h
  exact ⟨⟨S, h0.below hb, h1⟩, ⟨h2.1.block (hb.block _ h2.1.lt), h2.2.block (hb.block _ h2.2.lt)⟩, h3.trans (Foot.below0 hb)⟩
/-- one is laid -/
theorem lj_step {gs : List Int} {l : List Lat} {B g b n cb : Nat} {m1 m2 N k : Nat} {s : LS} {f c : Int → Option Int} {w wx : World} {x : Lat} {o : One} {S : List One}
    (hS : LAt B g (.slice (some ⟨b, 0, none⟩) n cb) m1 m2 N ⟨S, s.first, s.cnt⟩ wx) (h1 : S.length = l.length) (h2 : ∀ i, i < k → S[i]? = (ones gs l)[i]?) (h3 : ∀ i, k ≤ i → S[i]? = s.l[i]?) (hM : MapAt wx w.heap.size l.length f ∧ MapAt wx (w.heap.size + 1) l.length c) (hF : Foot g (.slice (some ⟨b, 0, none⟩) n cb) m1 m2 w wx)
    (hx : l[k]? = some x) (ho : s.l[k]? = some o) (hg : gs.getD k 0 = o.grp) (hbw : b < w.heap.size) :
    LJ gs l B g (.slice (some ⟨b, 0, none⟩) n cb) m1 m2 N s f c (k + 1) w ((wx.setCell ⟨b, k * 4, none⟩ (.bool x.set)).setCell ⟨b, k * 4 + 1, none⟩ (.int .i64 x.at_)) := by
  have hSk : S[k]? = some o := by rw [h3 k (Nat.le_refl _)]; exact ho
  obtain ⟨t1, t2⟩ := hS.turn (k := k) (o := o) hSk x.set x.at_
  have hfar : ∀ m, m ≠ b → ((wx.setCell ⟨b, k * 4, none⟩ (.bool x.set)).setCell ⟨b, k * 4 + 1, none⟩ (.int .i64 x.at_)).heap[m]? = wx.heap[m]? := fun m hm =>
    (Below.heap_setCell _ ⟨b, k * 4 + 1, none⟩ _ _ hm).trans (Below.heap_setCell _ ⟨b, k * 4, none⟩ _ _ hm)
  refine ⟨⟨_, t1, ?_, fun i hi => ?_, fun i hi => ?_⟩, ⟨hM.1.block (hfar _ (by omega)), hM.2.block (hfar _ (by omega))⟩, hF.trans t2⟩
  · simp [h1]
  · show (S.set k { o with set := x.set, at_ := x.at_ })[i]? = _
    by_cases e : i = k
    · subst e
      rw [List.getElem?_set_self (List.getElem?_eq_some_iff.1 hSk).1, ones_at, hx, ← hg]
      rfl
    · rw [List.getElem?_set_ne (Ne.symm e)]
      exact h2 i (by omega)
  · show (S.set k { o with set := x.set, at_ := x.at_ })[i]? = _
    rw [List.getElem?_set_ne (by omega)]
    exact h3 i (by omega)
theorem lj_end {gs : List Int} {l : List Lat} {B g : Nat} {v : Value} {m1 m2 N : Nat} {s : LS} {f c : Int → Option Int} {w wx w' : World} (h : LJ gs l B g v m1 m2 N s f c l.length w wx) (hB : B ≤ w.heap.size) (hl : l.length = s.l.length)
    (hw : w' = (wx.setCell ⟨g, 1, none⟩ (.map (some w.heap.size))).setCell ⟨g, 2, none⟩ (.map (some (w.heap.size + 1)))) (hgl : g < w.heap.size) : LAt B g v w.heap.size (w.heap.size + 1) (N + l.length) (loaded gs l f c) w' ∧ Foot g v m1 m2 w w' := by
  subst hw
  obtain ⟨⟨S, hS, h1, h2, h3⟩, hM, hF⟩ := h
  have hSo : S = ones gs l := by
    apply List.ext_getElem?
    intro i
    by_cases hi : i < l.length
    · exact h2 i hi
    · rw [List.getElem?_eq_none (by omega), List.getElem?_eq_none (by rw [ones_len]; omega)]
  subst hSo
  have hfar : ∀ m, m ≠ g → ((wx.setCell ⟨g, 1, none⟩ (.map (some w.heap.size))).setCell ⟨g, 2, none⟩ (.map (some (w.heap.size + 1)))).heap[m]? = wx.heap[m]? := fun m hm =>
    (Below.heap_setCell _ ⟨g, 2, none⟩ _ _ hm).trans (Below.heap_setCell _ ⟨g, 1, none⟩ _ _ hm)
  have hbl := (hS.1.1.set_ 1 (.map (some w.heap.size))).set_ 2 (.map (some (w.heap.size + 1)))
  have hgr1 : wx.grownBy (wx.setCell ⟨g, 1, none⟩ (.map (some w.heap.size))) (some g) := ⟨rfl, rfl, rfl, by simp, fun k _ hk => Below.heap_setCell _ ⟨g, 1, none⟩ _ _ (fun e => hk (by rw [e]))⟩
  have hgr2 : (wx.setCell ⟨g, 1, none⟩ (.map (some w.heap.size))).grownBy ((wx.setCell ⟨g, 1, none⟩ (.map (some w.heap.size))).setCell ⟨g, 2, none⟩ (.map (some (w.heap.size + 1)))) (some g) := ⟨rfl, rfl, rfl, by simp, fun k _ hk => Below.heap_setCell _ ⟨g, 2, none⟩ _ _ (fun e => hk (by rw [e]))⟩
  have hvg : v.ownBlock = none ∨ v.ownBlock ≠ some g := by
    rcases hv : v.ownBlock with _ | b
    · exact .inl rfl
    · exact .inr (by have := (hS.blk_ne hv).1; simp; exact this)
  refine ⟨⟨⟨hbl, ((hS.1.2.1.kept hgr1 hvg).kept hgr2 hvg), (hM.1.block (hfar _ (by omega))).mono (by omega), (hM.2.block (hfar _ (by omega))).mono (by omega)⟩, ⟨by omega, hS.2.1.2.1, by omega, by omega⟩, hS.2.2⟩, ?_⟩
  refine (hF.trans (Foot.grown hgr1 (fun k hk => ?_))).trans (Foot.grown hgr2 (fun k hk => ?_)) <;> (injection hk with hk; exact .inl hk.symm)
set_option maxRecDepth 100000 in
theorem Load_len (B g : Nat) (v : Value) (m1 m2 N : Nat) (s : LS) (w : World) (h : LAt B g v m1 m2 N s w) (n c : Nat) (A : Option Addr) (hne : n ≠ s.l.length) :
    Calls Try.prog 12 #[.pointer (some ⟨g, 0, none⟩), .slice A n c] w fun e w' => e = .returned (.bool false) ∧ w = w' := by
  obtain ⟨A0, c0, e⟩ := own_form h.1.2.1
  subst e
  have x0 : w.cell? ⟨g, 0, none⟩ = some (.slice A0 s.l.length c0) := h.1.1.cell 0
  have hn : ((n : Int) == (s.l.length : Int)) = false := by simp; omega
  clear h hne
  go_enter Try.func12, Try.ntmps12
  go_wp2_with fail
  go_ret
  exact ⟨rfl, rfl⟩
set_option maxHeartbeats 2000000 in
set_option maxRecDepth 100000 in
theorem Load_walk (B g : Nat) (v : Value) (m1 m2 N : Nat) (s : LS) (w : World) (h : LAt B g v m1 m2 N s w) (hI : Inv s) (l : List Lat) (v2 : Value) (hl : LatsAt w l v2) (hap : ∀ b off c, v2 = .slice (some ⟨b, off, none⟩) l.length c → l ≠ [] → b ≠ g ∧ v.ownBlock ≠ some b ∧ b ≠ m1 ∧ b ≠ m2) (hB : B ≤ w.heap.size) (hn : l.length = s.l.length) (hL : l.length ≤ 1000000) :
    Calls Try.prog 12 #[.pointer (some ⟨g, 0, none⟩), v2] w (LoadPost (grps s) l B g v m1 m2 N s w) := by
  have hmm := @run_makeMap Try.prog
  obtain ⟨A0, c0, e⟩ := own_form h.1.2.1
  subst e
  have hv := hl
  obtain ⟨A, c, rfl, hc, -⟩ := hv
  have x0 : w.cell? ⟨g, 0, none⟩ = some (.slice A0 s.l.length c0) := h.1.1.cell 0
  have HLL := Lib.hid hl
  have HAP := Lib.hid hap
  have H := Lib.hid h
  have HN := Lib.hid hn
  have HI := Lib.hid hI
  have hgl := Words.Blk.lt h.1.1
  rw [← hn] at x0
  clear h hl hI hn hap
  go_enter Try.func12, Try.ntmps12
  go_wp2_with fail
  have hLI : LI (grps s) l 0 (fun _ => none) (fun _ => none) w ((w.alloc (.map #[] 0)).alloc (.map #[] 0)) := by
    refine ⟨⟨(MapAt.made w).block (Below.heap_alloc _ _ _ (by simp)), ?_, ((Below.refl _ _).alloc (Nat.le_refl _) _).alloc (by simp) _⟩, fok_zero _ _, cok_zero _ _, okUpto_zero _ _⟩
    have := MapAt.made (w.alloc (.map #[] 0))
    rwa [World.size_alloc] at this
  have HLI := Lib.hid hLI
  clear hLI x0
  generalize (w.alloc (.map #[] 0)).alloc (.map #[] 0) = w1 at *
  go_loopw [26] (fun i wr => ∃ (k : Nat) (f c : Int → Option Int), k ≤ l.length ∧ i = .int .i64 k ∧ LI (grps s) l k f c w wr) (fun i _ => l.length - (intOf i).toNat)
  case atStart => exact ⟨0, _, _, Nat.zero_le _, rfl, HLI.out⟩
  case round =>
    clear HLI
    obtain ⟨k, f, cf, hk, rfl, hLI⟩ := hrel
    have HLI := Lib.hid hLI
    clear hLI
    by_cases hlt : k < l.length
    · obtain ⟨x, hx⟩ : ∃ x, l[k]? = some x := ⟨_, List.getElem?_eq_getElem hlt⟩
      obtain ⟨o, ho⟩ : ∃ o, s.l[k]? = some o := ⟨_, List.getElem?_eq_getElem (by rw [← HN.out]; exact hlt)⟩
      obtain ⟨bx, off', c', hv, hbl, hcell⟩ := HLL.out.at_ hx
      have e0 := hcell 0 _ rfl
      have e1 := hcell 1 _ rfl
      have e2 := hcell 2 _ rfl
      simp only [Nat.add_zero] at e0
      injection hv with hA e3 e4
      subst hA
      have hbw := HLI.out.1.2.2
      have y0 := (hbw.cell (p := ⟨bx, off' + k * 3, none⟩) hbl).trans e0
      have y1 := (hbw.cell (p := ⟨bx, off' + k * 3 + 1, none⟩) hbl).trans e1
      have y2 := (hbw.cell (p := ⟨bx, off' + k * 3 + 2, none⟩) hbl).trans e2
      obtain ⟨b, cb, eb, hcb⟩ := own_some H.out.1.2.1 (by rw [← HN.out]; exact hlt)
      injection eb with eA _ ec
      subst eA ec
      have HA := Lib.hid (H.out.below hbw)
      obtain ⟨z0, z1, z2, -, -, z3⟩ := HA.out.facts ho
      rw [← HN.out] at z0
      have hsz := hbw.size
      have HX := Lib.hid hx
      have HO := Lib.hid ho
      clear e0 e1 e2 e3 e4 hcell hx ho hbw
      obtain ⟨xs, xt, xf⟩ := x
      simp only at *
      have hgb : b < wr.heap.size := (HA.out.1.2.1.lt b rfl).2
      have hgg : g < wr.heap.size := Words.Blk.lt HA.out.1.1
      rcases xs with _ | _
      · by_cases hz : xt = 0 ∧ xf = false
        · obtain ⟨rfl, rfl⟩ := hz
          have HLS := Lib.hid ((li_zero HLI.out HX.out).below (w' := wr.alloc (.cells #[.bool false, .int .i64 0, .bool false] 37)) ((Below.refl _ _).alloc (Nat.le_refl _) _))
          go_wp2_with fail
          go_roundw
          case rel => exact ⟨k + 1, _, _, by omega, by go_num, HLS.out⟩
          case measure => simp [intOf]; omega
        · have hnv : ¬ Valid (grps s) l := not_valid HX.out (fun ho => by have := ho.1 rfl; injection this with _ h1 h2; exact hz ⟨h1, h2⟩)
          have HNV := Lib.hid hnv
          have hb2 : Below w.heap.size w (wr.alloc (.cells #[.bool false, .int .i64 xt, .bool xf] 37)) := HLI.out.1.2.2.alloc hsz _
          have HB2 := Lib.hid hb2
          have hzz : ((xt == 0) = false) ∨ ((xt == 0) = true ∧ xf = true) := by
            by_cases h0 : xt = 0
            · right; refine ⟨by simp [h0], ?_⟩; rcases xf with _ | _
              · exact absurd ⟨h0, rfl⟩ hz
              · rfl
            · left; simp [h0]
          clear hnv hb2 hz
          rcases hzz with h0 | ⟨h0, rfl⟩
          · go_wp2_with fail
            go_ret
            exact load_no H.out HNV.out HB2.out
          · go_wp2_with fail
            go_ret
            exact load_no H.out HNV.out HB2.out
      · have HF := Lib.hid (HA.out.2.2 o (List.mem_of_getElem? HO.out))
        have HG := Lib.hid (grps_getD HO.out)
        go_upto_if 46 with fail
        go_cut [] (fun wx => ∃ c2, LC (grps s) l k wr.heap.size xt xf f c2 w wx)
        case first =>
          by_cases h0 : o.grp = 0
          · have hgb0 : (o.grp == 0) = true := by simp [h0]
            have HC := Lib.hid (lc_zero HLI.out HX.out (HG.out.trans h0))
            clear h0
            go_wp2_with fail
            go_meet
            exact ⟨cf, HC.out⟩
          · have hgb0 : (o.grp == 0) = false := by simp [h0]
            have H0 := Lib.hid h0
            have hbd := cok_bound HLI.out.2.2.1 h0
            have hb : Below wr.heap.size wr (wr.alloc (.cells #[.bool true, .int .i64 xt, .bool xf] 37)) := (Below.refl _ _).alloc (Nat.le_refl _) _
            have l2 := (HLI.out.below hb).1.2.1.look HF.out
            have HM := Lib.hid (HLI.out.below hb).1.2.1
            generalize hC : (cf o.grp).getD 0 = C at *
            have HC := Lib.hid hC
            have hfit : Fit64 (C + 1) := ⟨by omega, by omega⟩
            have HFC := Lib.hid hfit
            have hw : IntKind.i64.wrap (C + 1) = C + 1 := wrap_small _ (by omega) (by omega)
            have hkm : k < maxLen := by unfold maxLen; omega
            clear h0 hb hC hfit
            go_wp2_with (at_mapUpdate; refine wpList_put_at _ rfl (.tmp 47) (.tmp 48) (.tmp 50) rfl rfl HM.out hkm rfl rfl HF.out HFC.out ?_; intro wf hm hgr; have HL := Lib.hid (lc_put HLI.out HX.out HG.out H0.out (by rw [HC.out]; exact hm) hgr); clear hm hgr l2)
            go_meet
            exact ⟨_, HL.out⟩
        case rest =>
          obtain ⟨c2, hL⟩ := hcut
          have HL := Lib.hid hL
          have b2 : wc.cell? ⟨wr.heap.size, 2, none⟩ = some (.bool xf) := hL.2.2.cell 2
          have HB2 := Lib.hid hL.1.2.2
          have l1 := hL.1.1.look_ok HF.out
          clear hL
          rcases xf with _ | _
          · have HLS := Lib.hid (lc_none HL.out HX.out)
            clear l1
            go_wp2_with fail
            go_roundw
            case rel => exact ⟨k + 1, _, _, by omega, by go_num, HLS.out⟩
            case measure => simp [intOf]; omega
          · rcases hf : f o.grp with _ | j
            · simp only [hf, Option.getD_none, Option.isSome_none] at l1
              have HFN := Lib.hid hf
              clear hf
              by_cases h0 : o.grp = 0
              · have hgb0 : (o.grp == 0) = true := by simp [h0]
                have HNV := Lib.hid (not_valid HX.out (gs := grps s) (fun ho => (ho.2 rfl).1 (HG.out.trans h0)))
                clear h0
                go_wp2_with fail
                go_ret
                exact load_no H.out HNV.out HB2.out
              · have hgb0 : (o.grp == 0) = false := by simp [h0]
                have H0 := Lib.hid h0
                have HK := Lib.hid (fit_nat (k := k) (by omega))
                have hkm : k < maxLen := by unfold maxLen; omega
                have HM := Lib.hid HL.out.1.1
                clear h0
                go_wp2_with (at_mapUpdate; refine wpList_put_at _ rfl (.tmp 65) (.tmp 66) (.tmp 67) rfl rfl HM.out hkm rfl rfl HF.out HK.out ?_; intro wf hm hgr; have HLS := Lib.hid (lc_first HL.out HX.out HG.out H0.out HFN.out hm hgr); clear hm hgr l1)
                go_roundw
                case rel => exact ⟨k + 1, _, _, by omega, by go_num, HLS.out⟩
                case measure => simp [intOf]; omega
            · simp only [hf, Option.getD_some, Option.isSome_some] at l1
              have HNV := Lib.hid (not_valid HX.out (not_okAt_first HL.out.2.1.1 (x := ⟨true, xt, true⟩) rfl (by rw [HG.out]; exact hf)))
              clear hf
              go_wp2_with fail
              go_ret
              exact load_no H.out HNV.out HB2.out
    · obtain rfl : k = l.length := by omega
      go_wp2_with fail
      have HJ := Lib.hid (lj_start H.out HN.out HLI.out)
      have HV := Lib.hid (okUpto_all HLI.out.2.2.2 (by rw [HN.out]; simp [grps]))
      have HFO := Lib.hid HLI.out.2.1
      have HCO := Lib.hid HLI.out.2.2.1
      clear HLI
      go_loopw [12, 13, 71] (fun _ _ i wx => ∃ k : Nat, k ≤ l.length ∧ i = .int .i64 k ∧ LJ (grps s) l B g (.slice A0 s.l.length c0) m1 m2 N s f cf k w wx) (fun _ _ i _ => l.length - (intOf i).toNat)
      case atStart => exact ⟨0, Nat.zero_le _, rfl, HJ.out⟩
      case round =>
        clear HJ
        obtain ⟨k, hk2, rfl, hJ⟩ := hrel
        have HJ := Lib.hid hJ
        clear hJ
        by_cases hlt2 : k < l.length
        · obtain ⟨x, hx⟩ : ∃ x, l[k]? = some x := ⟨_, List.getElem?_eq_getElem hlt2⟩
          obtain ⟨o, ho⟩ : ∃ o, s.l[k]? = some o := ⟨_, List.getElem?_eq_getElem (by rw [← HN.out]; exact hlt2)⟩
          obtain ⟨bx, off', c', hv, hbl, hcell⟩ := HLL.out.at_ hx
          have hapb := HAP.out bx off' c' hv (by rintro rfl; simp at hlt2)
          have e0 := hcell 0 _ rfl
          have e1 := hcell 1 _ rfl
          have e2 := hcell 2 _ rfl
          simp only [Nat.add_zero] at e0
          injection hv with hA e3 e4
          subst hA
          obtain ⟨⟨S, hS, hS1, hS2, hS3⟩, hM, hF⟩ := HJ.out
          have hblk := hF.block bx hbl hapb.1 hapb.2.1 hapb.2.2.1 hapb.2.2.2
          have y0 := (World.cell?_of_block (a := ⟨bx, off' + k * 3, none⟩) hblk).trans e0
          have y1 := (World.cell?_of_block (a := ⟨bx, off' + k * 3 + 1, none⟩) hblk).trans e1
          have y2 := (World.cell?_of_block (a := ⟨bx, off' + k * 3 + 2, none⟩) hblk).trans e2
          obtain ⟨b, cb, eb, hcb⟩ := own_some H.out.1.2.1 (by rw [← HN.out]; exact hlt2)
          injection eb with eA _ ec
          subst eA ec
          have hbw := (H.out.1.2.1.lt b rfl).2
          have hSk : S[k]? = some o := by rw [hS3 k (Nat.le_refl _)]; exact ho
          obtain ⟨z0, z1, z2, q0, q1, -⟩ := hS.facts hSk
          rw [← HN.out] at z0
          have hrow := hS.1.2.1
          simp only [hS1, HN.out] at hrow
          have f0 := hrow.frozenAt (k * 4)
          have f1 := hrow.frozenAt (k * 4 + 1)
          have hgl2 : g < wr.heap.size := Words.Blk.lt hS.1.1
          have hbl2 : b < wr.heap.size := (hrow.lt b rfl).2
          have hxl2 : bx < wr.heap.size := Nat.lt_of_lt_of_le hbl hF.size
          have HLS := Lib.hid ((lj_step hS hS1 hS2 hS3 hM hF hx ho (grps_getD ho) hbw).below (w' := (((wr.setCell ⟨b, k * 4, none⟩ (.bool x.set)).setCell ⟨b, k * 4 + 1, none⟩ (.int .i64 x.at_)).alloc (.cells #[.bool x.set, .int .i64 x.at_, .bool x.first] 37)).drew) ((Below.refl _ _).alloc (Nat.le_refl _) _).drew)
          clear hcell e0 e1 e2 e3 e4 hS hS1 hS2 hS3 hM hF hx ho hSk hrow hblk hapb
          go_upto_region 22 with fail
          go_region
          all_goals go_wp2_with fail
          all_goals
            go_roundw
            case rel => exact ⟨k + 1, by omega, by go_num, HLS.out⟩
            case measure => simp [intOf]; omega
        · obtain rfl : k = l.length := by omega
          have HE := Lib.hid (lj_end HJ.out hB HN.out rfl hgl)
          obtain ⟨⟨S, hS, -⟩, -, -⟩ := HJ.out
          have q1 : wr.cell? ⟨g, 1, none⟩ = some (.map (some m1)) := hS.1.1.cell 1
          have q2 : wr.cell? ⟨g, 2, none⟩ = some (.map (some m2)) := hS.1.1.cell 2
          have f1 := hS.1.1.frozen 1
          have f2 := hS.1.1.frozen 2
          clear hS
          go_wp2_with fail
          go_ret
          exact .inl ⟨rfl, HV.out, f, cf, _, _, HFO.out, HCO.out, HE.out.1, HE.out.2⟩
theorem Load_any (B g : Nat) (v : Value) (m1 m2 N : Nat) (s : LS) (w : World) (h : LAt B g v m1 m2 N s w) (hI : Inv s) (l : List Lat) (v2 : Value) (hl : LatsAt w l v2) (hap : ∀ b off c, v2 = .slice (some ⟨b, off, none⟩) l.length c → l ≠ [] → b ≠ g ∧ v.ownBlock ≠ some b ∧ b ≠ m1 ∧ b ≠ m2) (hB : B ≤ w.heap.size) (hL : s.l.length ≤ 1000000) :
    Calls Try.prog 12 #[.pointer (some ⟨g, 0, none⟩), v2] w (LoadPost (grps s) l B g v m1 m2 N s w) := by
  by_cases hn : l.length = s.l.length
  · exact Load_walk B g v m1 m2 N s w h hI l v2 hl hap hB hn (by omega)
  · obtain ⟨A, c, rfl, hc, -⟩ := hl
    refine (Load_len B g v m1 m2 N s w h l.length c A hn).mono ?_
    rintro e w' ⟨rfl, rfl⟩
    exact load_no h (fun hv => hn (by rw [hv.1]; simp [grps])) (Below.refl _ _)
end Go.Proofs.Ytcaobjmngdlklaa
