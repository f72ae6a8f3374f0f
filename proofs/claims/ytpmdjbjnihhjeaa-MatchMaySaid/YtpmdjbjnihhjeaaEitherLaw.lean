/- MatchEither, walked: the law's function returns true. -/
import Derived.Test.YtpmdjbjnihhjeaaDenied
import Derived.Test.YtpmdjbjnihhjeaaLoadsLaw
namespace Go.Proofs.Ytpmdjbjnihhjeaa
open Go.RowKit

theorem rise_len {H : List Int} {n : Nat} (h : Rise H 0 ((n : Int) - 1)) : H.length ≤ n := by
  obtain ⟨hp, hb⟩ := rise_iff.1 h
  have h1 := length_sum n H hp hb
  have h2 := sumTo_le_const (g := fun i : Nat => if (i : Int) ∈ H then (1 : Int) else 0) (c := 1) n (fun i _ => by split <;> omega)
  omega
theorem refMeets_t (b : Board) (Af As At Al : Option Addr) (cf cs ct cl : Nat) (l : List Int) (w : World) (hs : b.small) (hc : b.check = 0) (hl80 : l.length ≤ 80) (hB : BoardAt w Af As At b) (hL : IntsAt w Al l) {t : Bool} (ht : asB b l = t) :
    Calls Try.prog 34 #[.agg #[.slice Af b.finds.length cf, .slice As b.slots.length cs, .slice At b.fits.length ct], .slice Al l.length cl] w fun e w' => e = .returned (.tuple #[.bool t, .int .i64 0]) ∧ Below w.heap.size w w' :=
  (refMeets_any b Af As At Al cf cs ct cl l w hs hl80 hB hL).mono fun e w' ⟨hb, h⟩ => by
    rcases h with ⟨hne, _⟩ | ⟨_, rfl⟩
    · exact absurd hc hne
    · subst ht; exact ⟨rfl, hb⟩
theorem meets_t (b : Board) (Af As At Al : Option Addr) (cf cs ct cl : Nat) (l : List Int) (w : World) (hs : b.small) (hc : b.check = 0) (hl80 : l.length ≤ 80) (hB : BoardAt w Af As At b) (hL : IntsAt w Al l) {t : Bool} (ht : asB b l = t) :
    Calls Try.prog 36 #[.agg #[.slice Af b.finds.length cf, .slice As b.slots.length cs, .slice At b.fits.length ct], .slice Al l.length cl] w fun e w' => e = .returned (.tuple #[.bool t, .int .i64 0]) ∧ Below w.heap.size w w' :=
  (meets_any b Af As At Al cf cs ct cl l w hs hl80 hB hL).mono fun e w' ⟨hb, h⟩ => by
    rcases h with ⟨hne, _⟩ | ⟨_, rfl⟩
    · exact absurd hc hne
    · subst ht; exact ⟨rfl, hb⟩
theorem checkHall_t (b : Board) (Af As At Al : Option Addr) (cf cs ct cl : Nat) (H : List Int) (w : World) (hs : b.small) (hc : b.check = 0) (hl : H.length ≤ 80) (hB : BoardAt w Af As At b) (hL : IntsAt w Al H) {t : Bool} (ht : hallB b H = t) :
    Calls Try.prog 39 #[.agg #[.slice Af b.finds.length cf, .slice As b.slots.length cs, .slice At b.fits.length ct], .slice Al H.length cl] w fun e w' => e = .returned (.tuple #[.bool t, .int .i64 0]) ∧ Below w.heap.size w w' :=
  (checkHall_any b Af As At Al cf cs ct cl H w hs hl hB hL).mono fun e w' ⟨hb, h⟩ => by
    rcases h with ⟨hne, _⟩ | ⟨_, rfl⟩
    · exact absurd hc hne
    · subst ht; exact ⟨rfl, hb⟩
theorem refCheckHall_t (b : Board) (Af As At Al : Option Addr) (cf cs ct cl : Nat) (H : List Int) (w : World) (hs : b.small) (hc : b.check = 0) (hl : H.length ≤ 80) (hB : BoardAt w Af As At b) (hL : IntsAt w Al H) {t : Bool} (ht : hallB b H = t) :
    Calls Try.prog 40 #[.agg #[.slice Af b.finds.length cf, .slice As b.slots.length cs, .slice At b.fits.length ct], .slice Al H.length cl] w fun e w' => e = .returned (.tuple #[.bool t, .int .i64 0]) ∧ Below w.heap.size w w' :=
  (refCheckHall_any b Af As At Al cf cs ct cl H w hs hl hB hL).mono fun e w' ⟨hb, h⟩ => by
    rcases h with ⟨hne, _⟩ | ⟨_, rfl⟩
    · exact absurd hc hne
    · subst ht; exact ⟨rfl, hb⟩

set_option maxRecDepth 100000 in
set_option maxHeartbeats 16000000 in
theorem matchEither_any (b : Board) (Af As At A1 A2 : Option Addr) (cf cs ct cl c2 : Nat) (l1 l2 : List Int) (w : World) (hB : BoardAt w Af As At b) (hL1 : IntsAt w A1 l1) (hL2 : IntsAt w A2 l2) :
    Calls Try.prog 7 #[.agg #[.slice Af b.finds.length cf, .slice As b.slots.length cs, .slice At b.fits.length ct], .slice A1 l1.length cl, .slice A2 l2.length c2] w (LawPost w) := by
  obtain ⟨W, hW, b0, b1, b2, hbW, hz⟩ := box3 w (.slice Af b.finds.length cf) (.slice As b.slots.length cs) (.slice At b.fits.length ct) 26
  have HBW := hid hbW
  have hBW := hid (hB.kept (Kept.of_below hbW))
  have hB0 := hid hB
  have hL10 := hid hL1
  have hL20 := hid hL2
  clear hz hbW hB hL1 hL2
  go_enter Try.func7, Try.ntmps7
  go_wp2_with fail
  refine (wide_any b Af As At cf cs ct W hBW.out).mono ?_
  rintro e w1 ⟨t, rfl, hb1, hw1⟩
  have k0 := (Kept.of_below hb1) _ _ b0
  have k1 := (Kept.of_below hb1) _ _ b1
  have k2 := (Kept.of_below hb1) _ _ b2
  have HB1 := hid (HBW.out.trans (hb1.mono HBW.out.size))
  clear hb1 hW b0 b1 b2 hBW HBW
  rcases t with _ | _
  case false =>
    go_wp2_with fail
    refine (matched_true w1).mono ?_
    rintro e w2 ⟨rfl, hb2⟩
    have HB2 := hid hb2
    clear hb2
    go_wp2_with fail
    go_ret
    exact ⟨rfl, HB1.out.trans (HB2.out.mono HB1.out.size)⟩
  have HWI := hid (hw1 rfl)
  clear hw1
  by_cases q1 : l1.length ≤ 80
  case neg =>
    have : 80 < l1.length := by omega
    go_wp2_with fail
    refine (matched_true w1).mono ?_
    rintro e w2 ⟨rfl, hb2⟩
    have HB2 := hid hb2
    clear hb2
    go_wp2_with fail
    go_ret
    exact ⟨rfl, HB1.out.trans (HB2.out.mono HB1.out.size)⟩
  by_cases q2 : l2.length ≤ 80
  case neg =>
    have : 80 < l2.length := by omega
    go_wp2_with fail
    refine (matched_true w1).mono ?_
    rintro e w2 ⟨rfl, hb2⟩
    have HB2 := hid hb2
    clear hb2
    go_wp2_with fail
    go_ret
    exact ⟨rfl, HB1.out.trans (HB2.out.mono HB1.out.size)⟩
  have n3 := HWI.out.1.2.2.1
  go_wp2_with fail
  refine (assign_any b Af As At cf cs ct w1 HWI.out.1 (hB0.out.kept (Kept.of_below HB1.out))).mono ?_
  rintro e w2 ⟨hb2, hpost⟩
  have m0 := (Kept.of_below hb2) _ _ k0
  have m1 := (Kept.of_below hb2) _ _ k1
  have m2 := (Kept.of_below hb2) _ _ k2
  have HB2 := hid (HB1.out.trans (hb2.mono HB1.out.size))
  clear hb2 k0 k1 k2 HB1
  have hhall := hall_any b Af As At cf cs ct w2 HWI.out.1 (hB0.out.kept (Kept.of_below HB2.out))
  by_cases hc : b.check = 0
  case neg =>
    have d1 : (b.check != 0) = true := bne_iff_ne.2 hc
    have HC := hid hc
    rcases hpost with ⟨_, rfl⟩ | ⟨h0, _⟩ | ⟨h0, _⟩
    rotate_left
    · exact absurd h0 hc
    · exact absurd h0 hc
    clear hc
    go_wp2_with fail
    refine hhall.mono ?_
    rintro e w3 ⟨hb3, hpost⟩
    rcases hpost with ⟨_, rfl⟩ | ⟨h0, _⟩ | ⟨h0, _⟩
    rotate_left
    · exact absurd h0 HC.out
    · exact absurd h0 HC.out
    have HB3 := hid (HB2.out.trans (hb3.mono HB2.out.size))
    clear hb3
    go_wp2_with fail
    refine (matched_true w3).mono ?_
    rintro e w4 ⟨rfl, hb4⟩
    have HB4 := hid (HB3.out.trans (hb4.mono HB3.out.size))
    clear hb4
    go_wp2_with fail
    go_ret
    exact ⟨rfl, HB4.out⟩
  have HC := hid hc
  have HG := hid (Board.check_good hc)
  have HFI := hid (Board.check_fine HWI.out.1 hc)
  clear hc
  rcases hpost with ⟨h0, _⟩ | ⟨_, hno, rfl⟩ | ⟨_, Aa, ca, a, hfirst, rfl, hA⟩
  · exact absurd HC.out h0
  · have HNO := hid hno
    clear hno
    go_wp2_with fail
    refine hhall.mono ?_
    rintro e w3 ⟨hb3, hpost⟩
    rcases hpost with ⟨h0, _⟩ | ⟨_, hex, _⟩ | ⟨_, H, Ah, ch, rfl, hH, hsh⟩
    · exact absurd HC.out h0
    · exact absurd hex HNO.out
    have HSH := hid hsh
    have hl80 : H.length ≤ 80 := by have := rise_len hsh.rise; omega
    have hpos : ∃ t, hallB b l2 = t := ⟨_, rfl⟩
    have k0 := (Kept.of_below hb3) _ _ m0
    have k1 := (Kept.of_below hb3) _ _ m1
    have k2 := (Kept.of_below hb3) _ _ m2
    have HB3 := hid (HB2.out.trans (hb3.mono HB2.out.size))
    have HH := hid hH
    clear hb3 m0 m1 m2 hH hsh
    go_wp2_with fail
    refine (meets_t b Af As At A1 cf cs ct cl l1 w3 HWI.out.1 HC.out q1 (hB0.out.kept (Kept.of_below HB3.out)) (hL10.out.kept (Kept.of_below HB3.out)) (asB_no fun h => HNO.out ⟨_, h⟩)).mono ?_
    rintro e w4 ⟨rfl, hb4⟩
    have m0 := (Kept.of_below hb4) _ _ k0
    have m1 := (Kept.of_below hb4) _ _ k1
    have m2 := (Kept.of_below hb4) _ _ k2
    have HB4 := hid (HB3.out.trans (hb4.mono HB3.out.size))
    have HH4 := hid (HH.out.kept (Kept.of_below hb4))
    clear hb4 k0 k1 k2
    go_wp2_with fail
    obtain ⟨t, ht⟩ := hpos
    refine (checkHall_t b Af As At A2 cf cs ct c2 l2 w4 HWI.out.1 HC.out q2 (hB0.out.kept (Kept.of_below HB4.out)) (hL20.out.kept (Kept.of_below HB4.out)) ht).mono ?_
    rintro e w5 ⟨rfl, hb5⟩
    have k0 := (Kept.of_below hb5) _ _ m0
    have k1 := (Kept.of_below hb5) _ _ m1
    have k2 := (Kept.of_below hb5) _ _ m2
    have HB5 := hid (HB4.out.trans (hb5.mono HB4.out.size))
    have HH5 := hid (HH4.out.kept (Kept.of_below hb5))
    clear hb5 m0 m1 m2 ht
    rcases t with _ | _
    all_goals
      go_wp2_with fail
      refine (refCheckHall_t b Af As At Ah cf cs ct ch H w5 HWI.out.1 HC.out hl80 (hB0.out.kept (Kept.of_below HB5.out)) HH5.out (hall_iff.2 HSH.out)).mono ?_
      rintro e w6 ⟨rfl, hb6⟩
      have HB6 := hid (HB5.out.trans (hb6.mono HB5.out.size))
      clear hb6
      go_wp2_with fail
      refine (matched_true w6).mono ?_
      rintro e w7 ⟨rfl, hb7⟩
      have HB7 := hid (HB6.out.trans (hb7.mono HB6.out.size))
      clear hb7
      go_wp2_with fail
      go_ret
      exact ⟨rfl, HB7.out⟩
  · have HAS := hid hfirst.is
    have hal : a.length ≤ 80 := by rw [hfirst.is.len]; omega
    have HA := hid hA
    clear hA hfirst
    go_wp2_with fail
    refine hhall.mono ?_
    rintro e w3 ⟨hb3, hpost⟩
    rcases hpost with ⟨h0, _⟩ | ⟨_, _, rfl⟩ | ⟨_, H, Ah, ch, _, _, hsh⟩
    · exact absurd HC.out h0
    rotate_left
    · exact absurd ⟨_, HAS.out⟩ (Board.no_as HC.out hsh)
    have hpos : ∃ t, asB b l1 = t := ⟨_, rfl⟩
    have k0 := (Kept.of_below hb3) _ _ m0
    have k1 := (Kept.of_below hb3) _ _ m1
    have k2 := (Kept.of_below hb3) _ _ m2
    have HB3 := hid (HB2.out.trans (hb3.mono HB2.out.size))
    have HA3 := hid (HA.out.kept (Kept.of_below hb3))
    clear hb3 m0 m1 m2
    obtain ⟨t, ht⟩ := hpos
    have HNH : Hid (hallB b l2 = false) := hid (by
      rcases e : hallB b l2 with _ | _
      · rfl
      · exact absurd ⟨_, HAS.out⟩ (Board.no_as HC.out (hall_iff.1 e)))
    go_wp2_with fail
    refine (meets_t b Af As At A1 cf cs ct cl l1 w3 HWI.out.1 HC.out q1 (hB0.out.kept (Kept.of_below HB3.out)) (hL10.out.kept (Kept.of_below HB3.out)) ht).mono ?_
    rintro e w4 ⟨rfl, hb4⟩
    have m0 := (Kept.of_below hb4) _ _ k0
    have m1 := (Kept.of_below hb4) _ _ k1
    have m2 := (Kept.of_below hb4) _ _ k2
    have HB4 := hid (HB3.out.trans (hb4.mono HB3.out.size))
    have HA4 := hid (HA3.out.kept (Kept.of_below hb4))
    clear hb4 k0 k1 k2 ht
    go_wp2_with fail
    refine (checkHall_t b Af As At A2 cf cs ct c2 l2 w4 HWI.out.1 HC.out q2 (hB0.out.kept (Kept.of_below HB4.out)) (hL20.out.kept (Kept.of_below HB4.out)) HNH.out).mono ?_
    rintro e w5 ⟨rfl, hb5⟩
    have k0 := (Kept.of_below hb5) _ _ m0
    have k1 := (Kept.of_below hb5) _ _ m1
    have k2 := (Kept.of_below hb5) _ _ m2
    have HB5 := hid (HB4.out.trans (hb5.mono HB4.out.size))
    have HA5 := hid (HA4.out.kept (Kept.of_below hb5))
    clear hb5 m0 m1 m2
    rcases t with _ | _
    all_goals
      go_wp2_with fail
      refine (refMeets_t b Af As At Aa cf cs ct ca a w5 HWI.out.1 HC.out hal (hB0.out.kept (Kept.of_below HB5.out)) HA5.out (asB_yes HAS.out)).mono ?_
      rintro e w6 ⟨rfl, hb6⟩
      have HB6 := hid (HB5.out.trans (hb6.mono HB5.out.size))
      clear hb6
      go_wp2_with fail
      refine (matched_true w6).mono ?_
      rintro e w7 ⟨rfl, hb7⟩
      have HB7 := hid (HB6.out.trans (hb7.mono HB6.out.size))
      clear hb7
      go_wp2_with fail
      go_ret
      exact ⟨rfl, HB7.out⟩
end Go.Proofs.Ytpmdjbjnihhjeaa
