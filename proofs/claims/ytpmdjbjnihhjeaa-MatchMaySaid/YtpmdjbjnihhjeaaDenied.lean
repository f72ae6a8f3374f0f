/- CheckHall and CheckRefuse, the program's and the reference's. -/
import Derived.Test.YtpmdjbjnihhjeaaRefShort
import Derived.Test.YtpmdjbjnihhjeaaNobody
namespace Go.Proofs.Ytpmdjbjnihhjeaa
open Go.RowKit

open Classical in
noncomputable def hallB (b : Board) (H : List Int) : Bool := decide (Short b.fits (pieces b.slots) H)
theorem hall_iff {b : Board} {H : List Int} : hallB b H = true ↔ Short b.fits (pieces b.slots) H := by simp [hallB]
open Classical in
noncomputable def deniedB (b : Board) (f : Nat) (s : Int) (H : List Int) : Bool := decide (Denial b f s H)
theorem denied_iff {b : Board} {f : Nat} {s : Int} {H : List Int} : deniedB b f s H = true ↔ Denial b f s H := by simp [deniedB]
theorem bool_eq {x y : Bool} (h : x = true ↔ y = true) : x = y := by cases x <;> cases y <;> simp_all

theorem spare_none (b : Board) (H : List Int) : spareRoom b H (-1) = nearRoom b.fits (pieces b.slots) H := by
  unfold spareRoom nearRoom
  rw [pieces_length]
  refine sumTo_congr fun x _ => ?_
  rw [if_neg (show ¬ (x : Int) = -1 by omega)]
  split <;> omega
theorem spare_less {b : Board} {s : Int} (h0 : 0 ≤ s) (h1 : s < b.slots.length) (H : List Int) : spareRoom b H s = nearRoom b.fits (less (pieces b.slots) s) H := by
  unfold spareRoom nearRoom
  rw [less_length, pieces_length]
  refine sumTo_congr fun x _ => ?_
  rw [roomOf_less h0 (by rw [pieces_length]; exact h1) (by omega)]
theorem crowd_hall {b : Board} {H : List Int} (hn : b.fits.length = b.finds.length) : crowdB b H (-1) (-1) = hallB b H := by
  refine bool_eq ?_
  rw [crowd_iff, hall_iff]
  refine ⟨fun h => ⟨by rw [hn]; exact h.rise, fun f hf => (h.fit f hf).2, by rw [← spare_none]; exact h.few⟩, fun h => ⟨by rw [← hn]; exact h.rise, fun f hf => ⟨rise_pos h.rise f hf, h.fit f hf⟩, by rw [spare_none]; exact h.few⟩⟩
theorem crowd_denied {b : Board} {H : List Int} {f : Nat} {s : Int} (hn : b.fits.length = b.finds.length) (h0 : 0 ≤ s) (h1 : s < b.slots.length) : crowdB b H f s = deniedB b f s H := by
  refine bool_eq ?_
  rw [crowd_iff, denied_iff]
  refine ⟨fun h => ⟨⟨by rw [hn]; exact h.rise, fun f hf => (h.fit f hf).2, by rw [← spare_less h0 h1]; exact h.few⟩, fun hm => (h.fit _ hm).1 rfl⟩, fun h => ⟨by rw [← hn]; exact h.short.rise, fun x hx => ⟨fun e => h.out (e ▸ hx), h.short.fit x hx⟩, by rw [spare_less h0 h1]; exact h.short.few⟩⟩
theorem crowd_denied2 {b : Board} {H : List Int} {f : Nat} {s : Int} (hn : b.fits.length = b.finds.length) (h0 : 0 ≤ s) (h1 : s < b.slots.length) (hf : (f : Int) ∉ H) : crowdB b H (-1) s = deniedB b f s H := by
  rw [← crowd_denied hn h0 h1]
  refine bool_eq ?_
  rw [crowd_iff, crowd_iff]
  exact ⟨fun h => ⟨h.rise, fun x hx => ⟨fun e => hf (e ▸ hx), (h.fit x hx).2⟩, h.few⟩, fun h => ⟨h.rise, fun x hx => ⟨rise_pos h.rise x hx, (h.fit x hx).2⟩, h.few⟩⟩
theorem denied_in {b : Board} {H : List Int} {f : Nat} {s : Int} (hf : (f : Int) ∈ H) : deniedB b f s H = false := by
  rcases e : deniedB b f s H with _ | _
  · rfl
  · exact absurd hf (denied_iff.1 e).out

/-- What a check of a Hall set comes to. -/
def HallCheck (b : Board) (H : List Int) (w : World) (e : Ending) (w' : World) : Prop :=
  Below w.heap.size w w' ∧ ((b.check ≠ 0 ∧ e = .returned (.tuple #[.bool false, .int .i64 b.check])) ∨ (b.check = 0 ∧ e = .returned (.tuple #[.bool (hallB b H), .int .i64 0])))
/-- What a check of a denial comes to. -/
def DenyCheck (b : Board) (f s : Int) (H : List Int) (w : World) (e : Ending) (w' : World) : Prop :=
  Below w.heap.size w w' ∧ ((askOf b f s false false ≠ 0 ∧ e = .returned (.tuple #[.bool false, .int .i64 (askOf b f s false false)])) ∨
    (askOf b f s false false = 0 ∧ s ∉ fitOf b.fits f.toNat ∧ e = .returned (.tuple #[.bool ((H.length : Int) == 0), .int .i64 0])) ∨
    (askOf b f s false false = 0 ∧ s ∈ fitOf b.fits f.toNat ∧ e = .returned (.tuple #[.bool (deniedB b f.toNat s H), .int .i64 0])))

theorem crowded_t (b : Board) (Af As At Al : Option Addr) (cf cs ct cl : Nat) (H : List Int) (f s : Int) (w : World) (hs : b.small) (hc : b.check = 0) (hl : H.length ≤ 80) (hB : BoardAt w Af As At b) (hL : IntsAt w Al H) {t : Bool} (ht : crowdB b H f s = t) :
    Calls Try.prog 75 #[.agg #[.slice Af b.finds.length cf, .slice As b.slots.length cs, .slice At b.fits.length ct], .slice Al H.length cl, .int .i64 f, .int .i64 s] w fun e w' => e = .returned (.bool t) ∧ Below w.heap.size w w' := by
  subst ht
  exact crowded_any b Af As At Al cf cs ct cl H f s w hs hc hl hB hL
theorem refShort_t (b : Board) (Af As At Al : Option Addr) (cf cs ct cl : Nat) (H : List Int) (s : Int) (w : World) (hs : b.small) (hc : b.check = 0) (hl : H.length ≤ 80) (hB : BoardAt w Af As At b) (hL : IntsAt w Al H) {t : Bool} (ht : crowdB b H (-1) s = t) :
    Calls Try.prog 73 #[.agg #[.slice Af b.finds.length cf, .slice As b.slots.length cs, .slice At b.fits.length ct], .slice Al H.length cl, .int .i64 s] w fun e w' => e = .returned (.bool t) ∧ Below w.heap.size w w' := by
  subst ht
  exact refShort_any b Af As At Al cf cs ct cl H s w hs hc hl hB hL

set_option maxRecDepth 100000 in
set_option maxHeartbeats 8000000 in
theorem checkHall_any (b : Board) (Af As At Al : Option Addr) (cf cs ct cl : Nat) (H : List Int) (w : World) (hs : b.small) (hl : H.length ≤ 80) (hB : BoardAt w Af As At b) (hL : IntsAt w Al H) :
    Calls Try.prog 39 #[.agg #[.slice Af b.finds.length cf, .slice As b.slots.length cs, .slice At b.fits.length ct], .slice Al H.length cl] w (HallCheck b H w) := by
  have HS := hid hs
  obtain ⟨W, hW, c0, c1, c2, hbW, hz⟩ := box3 w (.slice Af b.finds.length cf) (.slice As b.slots.length cs) (.slice At b.fits.length ct) 26
  have HBW := hid hbW
  have hBW := hid (hB.kept (Kept.of_below hbW))
  have hLW := hid (hL.kept (Kept.of_below hbW))
  clear hz hbW hB hs hL
  by_cases hc : b.check = 0
  case neg =>
    have d1 : (b.check != 0) = true := by simpa using hc
    have HC := hid hc
    clear hc
    go_enter Try.func39, Try.ntmps39
    go_wp2_with fail
    refine (check_any Af As At cf cs ct b W HS.out hBW.out).mono ?_
    rintro e w1 ⟨rfl, hb1⟩
    have HB1 := hid hb1
    clear hb1
    go_wp2_with fail
    go_ret2
    exact ⟨HBW.out.trans (HB1.out.mono HBW.out.size), .inl ⟨HC.out, rfl⟩⟩
  case pos =>
    have HC := hid hc
    have HFI := hid (Board.check_fine HS.out hc)
    clear hc
    go_enter Try.func39, Try.ntmps39
    go_wp2_with fail
    refine (check_t Af As At cf cs ct b W HS.out hBW.out HC.out).mono ?_
    rintro e w1 ⟨rfl, hb1⟩
    have k0 := (Kept.of_below hb1) _ _ c0
    have k1 := (Kept.of_below hb1) _ _ c1
    have k2 := (Kept.of_below hb1) _ _ c2
    have HB1 := hid (HBW.out.trans (hb1.mono HBW.out.size))
    have hB1 := hid (hBW.out.kept (Kept.of_below hb1))
    have hL1 := hid (hLW.out.kept (Kept.of_below hb1))
    clear hb1 hW c0 c1 c2
    go_wp2_with fail
    refine (crowded_t b Af As At Al cf cs ct cl H (-1) (-1) w1 HS.out HC.out hl hB1.out hL1.out (crowd_hall HFI.out.fits)).mono ?_
    rintro e w2 ⟨rfl, hb2⟩
    have HB2 := hid hb2
    clear hb2
    go_wp2_with fail
    go_ret2
    exact ⟨HB1.out.trans (HB2.out.mono HB1.out.size), .inr ⟨HC.out, rfl⟩⟩

set_option maxRecDepth 100000 in
set_option maxHeartbeats 8000000 in
theorem refCheckHall_any (b : Board) (Af As At Al : Option Addr) (cf cs ct cl : Nat) (H : List Int) (w : World) (hs : b.small) (hl : H.length ≤ 80) (hB : BoardAt w Af As At b) (hL : IntsAt w Al H) :
    Calls Try.prog 40 #[.agg #[.slice Af b.finds.length cf, .slice As b.slots.length cs, .slice At b.fits.length ct], .slice Al H.length cl] w (HallCheck b H w) := by
  have HS := hid hs
  obtain ⟨W, hW, c0, c1, c2, hbW, hz⟩ := box3 w (.slice Af b.finds.length cf) (.slice As b.slots.length cs) (.slice At b.fits.length ct) 26
  have HBW := hid hbW
  have hBW := hid (hB.kept (Kept.of_below hbW))
  have hLW := hid (hL.kept (Kept.of_below hbW))
  clear hz hbW hB hs hL
  by_cases hc : b.check = 0
  case neg =>
    have d1 : (b.check == 0) = false := beq_eq_false_iff_ne.2 hc
    have HC := hid hc
    clear hc
    go_enter Try.func40, Try.ntmps40
    go_wp2_with fail
    refine (refCheck_t Af As At cf cs ct b W HS.out hBW.out rfl).mono ?_
    rintro e w1 ⟨rfl, hb1⟩
    have HB1 := hid hb1
    clear hb1
    go_wp2_with fail
    go_ret2
    exact ⟨HBW.out.trans (HB1.out.mono HBW.out.size), .inl ⟨HC.out, rfl⟩⟩
  case pos =>
    have HC := hid hc
    have HFI := hid (Board.check_fine HS.out hc)
    clear hc
    go_enter Try.func40, Try.ntmps40
    go_wp2_with fail
    refine (refCheck_t Af As At cf cs ct b W HS.out hBW.out HC.out).mono ?_
    rintro e w1 ⟨rfl, hb1⟩
    have k0 := (Kept.of_below hb1) _ _ c0
    have k1 := (Kept.of_below hb1) _ _ c1
    have k2 := (Kept.of_below hb1) _ _ c2
    have HB1 := hid (HBW.out.trans (hb1.mono HBW.out.size))
    have hB1 := hid (hBW.out.kept (Kept.of_below hb1))
    have hL1 := hid (hLW.out.kept (Kept.of_below hb1))
    clear hb1 hW c0 c1 c2
    go_wp2_with fail
    refine (refShort_t b Af As At Al cf cs ct cl H (-1) w1 HS.out HC.out hl hB1.out hL1.out (crowd_hall HFI.out.fits)).mono ?_
    rintro e w2 ⟨rfl, hb2⟩
    have HB2 := hid hb2
    clear hb2
    go_wp2_with fail
    go_ret2
    exact ⟨HB1.out.trans (HB2.out.mono HB1.out.size), .inr ⟨HC.out, rfl⟩⟩

set_option maxRecDepth 100000 in
set_option maxHeartbeats 8000000 in
theorem checkRefuse_any (b : Board) (Af As At Al : Option Addr) (cf cs ct cl : Nat) (f s : Int) (H : List Int) (w : World) (hs : b.small) (hl : H.length ≤ 80) (hB : BoardAt w Af As At b) (hL : IntsAt w Al H) :
    Calls Try.prog 46 #[.agg #[.slice Af b.finds.length cf, .slice As b.slots.length cs, .slice At b.fits.length ct], .int .i64 f, .int .i64 s, .slice Al H.length cl] w (DenyCheck b f s H w) := by
  have HS := hid hs
  obtain ⟨W, hW, c0, c1, c2, hbW, hz⟩ := box3 w (.slice Af b.finds.length cf) (.slice As b.slots.length cs) (.slice At b.fits.length ct) 26
  have HBW := hid hbW
  have hBW := hid (hB.kept (Kept.of_below hbW))
  have hLW := hid (hL.kept (Kept.of_below hbW))
  clear hz hbW hB hs hL
  by_cases hc : askOf b f s false false = 0
  case neg =>
    have d1 : (askOf b f s false false != 0) = true := by simpa using hc
    have HC := hid hc
    clear hc
    go_enter Try.func46, Try.ntmps46
    go_wp2_with fail
    refine (both_any b Af As At cf cs ct W HS.out hBW.out f s rfl).mono ?_
    rintro e w1 ⟨rfl, hb1⟩
    have HB1 := hid hb1
    clear hb1
    go_wp2_with fail
    go_ret2
    exact ⟨HBW.out.trans (HB1.out.mono HBW.out.size), .inl ⟨HC.out, rfl⟩⟩
  case pos =>
    obtain ⟨hck, r1, r2, r3, r4⟩ := askOf_range hc
    obtain ⟨fn, rfl⟩ : ∃ fn : Nat, f = (fn : Int) := ⟨f.toNat, by omega⟩
    have HC := hid hc
    have HCK := hid hck
    have HFI := hid (Board.check_fine HS.out hck)
    have hfl : fn < b.fits.length := by rw [HFI.out.fits]; omega
    have i0 : (0 : Int) ≤ fn := by omega
    have i1 : (fn : Int) < b.fits.length := by omega
    obtain ⟨fb, foff, rfl, hfc⟩ := hBW.out.fits (by omega)
    obtain ⟨Aj, cj, f1, f2⟩ := hfc fn hfl
    have hlenL := HFI.out.lens _ (List.getElem_mem hfl)
    obtain ⟨L, hL⟩ : ∃ L, L = b.fits[fn] := ⟨_, rfl⟩
    rw [← hL] at f1 f2 hlenL
    have HL : Hid (fitOf b.fits ((fn : Int)).toNat = L) := hid (by rw [Int.toNat_natCast]; exact (fitOf_lt hfl).trans hL.symm)
    have HDE : Hid (crowdB b H (fn : Int) s = deniedB b ((fn : Int)).toNat s H) := hid (by rw [Int.toNat_natCast]; exact crowd_denied HFI.out.fits r3 r4)
    have HF2 := hid f2
    clear hc hck hfc hL f2
    go_enter Try.func46, Try.ntmps46
    go_wp2_with fail
    refine (both_any b Af As (some ⟨fb, foff, none⟩) cf cs ct W HS.out hBW.out fn s HC.out).mono ?_
    rintro e w1 ⟨rfl, hb1⟩
    have k0 := (Kept.of_below hb1) _ _ c0
    have k1 := (Kept.of_below hb1) _ _ c1
    have k2 := (Kept.of_below hb1) _ _ c2
    have kf := (Kept.of_below hb1) _ _ f1
    have HB1 := hid (HBW.out.trans (hb1.mono HBW.out.size))
    have hB1 := hid (hBW.out.kept (Kept.of_below hb1))
    have hL1 := hid (hLW.out.kept (Kept.of_below hb1))
    have HF3 := hid (HF2.out.kept (Kept.of_below hb1))
    clear hb1 hW c0 c1 c2 f1
    by_cases hmem : s ∈ L
    case neg =>
      have HM := hid hmem
      clear hmem
      go_wp2_with fail
      refine (contains_t _ _ _ _ _ (by omega) HF3.out (decide_eq_false HM.out)).mono ?_
      rintro e w3 ⟨rfl, rfl⟩
      go_wp2_with fail
      go_ret2
      exact ⟨HB1.out, .inr (.inl ⟨HC.out, by rw [HL.out]; exact HM.out, rfl⟩)⟩
    case pos =>
      have HM := hid hmem
      clear hmem
      go_wp2_with fail
      refine (contains_t _ _ _ _ _ (by omega) HF3.out (decide_eq_true HM.out)).mono ?_
      rintro e w3 ⟨rfl, rfl⟩
      go_wp2_with fail
      refine (crowded_t b Af As (some ⟨fb, foff, none⟩) Al cf cs ct cl H fn s w1 HS.out HCK.out hl hB1.out hL1.out HDE.out).mono ?_
      rintro e w2 ⟨rfl, hb2⟩
      have HB2 := hid hb2
      clear hb2
      go_wp2_with fail
      go_ret2
      exact ⟨HB1.out.trans (HB2.out.mono HB1.out.size), .inr (.inr ⟨HC.out, by rw [HL.out]; exact HM.out, rfl⟩)⟩
end Go.Proofs.Ytpmdjbjnihhjeaa
