/- MatchShown, walked: the law's function returns true. -/
import Derived.Test.YtpmdjbjnihhjeaaRefDeny
import Derived.Test.YtpmdjbjnihhjeaaEitherLaw
namespace Go.Proofs.Ytpmdjbjnihhjeaa
open Go.RowKit

set_option maxRecDepth 100000 in
set_option maxHeartbeats 32000000 in
theorem matchShown_any (b : Board) (Af As At A1 A2 : Option Addr) (cf cs ct cl c2 : Nat) (f s : Int) (l1 l2 : List Int) (w : World) (hB : BoardAt w Af As At b) (hL1 : IntsAt w A1 l1) (hL2 : IntsAt w A2 l2) :
    Calls Try.prog 10 #[.agg #[.slice Af b.finds.length cf, .slice As b.slots.length cs, .slice At b.fits.length ct], .int .i64 f, .int .i64 s, .slice A1 l1.length cl, .slice A2 l2.length c2] w (LawPost w) := by
  obtain ⟨W, hW, b0, b1, b2, hbW, hz⟩ := box3 w (.slice Af b.finds.length cf) (.slice As b.slots.length cs) (.slice At b.fits.length ct) 26
  have HBW := hid hbW
  have hBW := hid (hB.kept (Kept.of_below hbW))
  have hB0 := hid hB
  have hL10 := hid hL1
  have hL20 := hid hL2
  clear hz hbW hB hL1 hL2
  go_enter Try.func10, Try.ntmps10
  go_wp2_with fail
  refine (wide_any b Af As At cf cs ct W hBW.out).mono ?_
  rintro e w1 ⟨t, rfl, hb1, hw1⟩
  have k0 := (Kept.of_below hb1) _ _ b0
  have k1 := (Kept.of_below hb1) _ _ b1
  have k2 := (Kept.of_below hb1) _ _ b2
  have HB1 := hid (HBW.out.trans (hb1.mono HBW.out.size))
  clear hb1 hW b0 b1 b2 hBW HBW
  rcases t with _ | _
  case false =>
    go_wp2_with fail
    refine (matched_true w1).mono ?_
    rintro e w2 ⟨rfl, hb2⟩
    have HB2 := hid hb2
    clear hb2
    go_wp2_with fail
    go_ret
    exact ⟨rfl, HB1.out.trans (HB2.out.mono HB1.out.size)⟩
  have HWI := hid (hw1 rfl)
  clear hw1
  by_cases q1 : l1.length ≤ 80
  case neg =>
    have : 80 < l1.length := by omega
    go_wp2_with fail
    refine (matched_true w1).mono ?_
    rintro e w2 ⟨rfl, hb2⟩
    have HB2 := hid hb2
    clear hb2
    go_wp2_with fail
    go_ret
    exact ⟨rfl, HB1.out.trans (HB2.out.mono HB1.out.size)⟩
  by_cases q2 : l2.length ≤ 80
  case neg =>
    have : 80 < l2.length := by omega
    go_wp2_with fail
    refine (matched_true w1).mono ?_
    rintro e w2 ⟨rfl, hb2⟩
    have HB2 := hid hb2
    clear hb2
    go_wp2_with fail
    go_ret
    exact ⟨rfl, HB1.out.trans (HB2.out.mono HB1.out.size)⟩
  have n3 := HWI.out.1.2.2.1
  go_wp2_with fail
  refine (may_any b Af As At cf cs ct w1 HWI.out.1 (hB0.out.kept (Kept.of_below HB1.out)) f s).mono ?_
  rintro e w2 ⟨hb2, hmay⟩
  have m0 := (Kept.of_below hb2) _ _ k0
  have m1 := (Kept.of_below hb2) _ _ k1
  have m2 := (Kept.of_below hb2) _ _ k2
  have HB2 := hid (HB1.out.trans (hb2.mono HB1.out.size))
  clear hb2 k0 k1 k2 HB1
  have hthr := through_any b Af As At cf cs ct w2 HWI.out.1 (hB0.out.kept (Kept.of_below HB2.out)) f s
  have href : ∀ w3, Below w.heap.size w w3 → Calls Try.prog 31 _ w3 (RefusePost b f s w3) := fun w3 h => refuse_any b Af As At cf cs ct w3 HWI.out.1 (hB0.out.kept (Kept.of_below h)) f s
  have HTHR := hid hthr
  have HREF := hid href
  clear hthr href
  by_cases hask : askOf b f s false false = 0
  case neg =>
    have d1 : (askOf b f s false false != 0) = true := bne_iff_ne.2 hask
    have d2 : (askOf b f s false false == askOf b f s false false) = true := beq_iff_eq.2 rfl
    have HC := hid hask
    rcases hmay with ⟨_, rfl⟩ | ⟨h0, _⟩ | ⟨h0, _⟩
    rotate_left
    · exact absurd h0 hask
    · exact absurd h0 hask
    clear hask
    go_wp2_with fail
    refine HTHR.out.mono ?_
    rintro e w3 ⟨hb3, hpost⟩
    rcases hpost with ⟨_, rfl⟩ | ⟨h0, _⟩ | ⟨h0, _⟩
    rotate_left
    · exact absurd h0 HC.out
    · exact absurd h0 HC.out
    have k0 := (Kept.of_below hb3) _ _ m0
    have k1 := (Kept.of_below hb3) _ _ m1
    have k2 := (Kept.of_below hb3) _ _ m2
    have HB3 := hid (HB2.out.trans (hb3.mono HB2.out.size))
    clear hb3 m0 m1 m2
    have m0 := k0
    have m1 := k1
    have m2 := k2
    clear k0 k1 k2
    go_wp2_with fail
    refine (HREF.out w3 HB3.out).mono ?_
    rintro e w4 ⟨hb4, hpost⟩
    rcases hpost with ⟨_, rfl⟩ | ⟨h0, _⟩ | ⟨h0, _⟩
    rotate_left
    · exact absurd h0 HC.out
    · exact absurd h0 HC.out
    have HB4 := hid (HB3.out.trans (hb4.mono HB3.out.size))
    clear hb4
    go_wp2_with fail
    refine (matched_true w4).mono ?_
    rintro e w5 ⟨rfl, hb5⟩
    have HB5 := hid (HB4.out.trans (hb5.mono HB4.out.size))
    clear hb5
    go_wp2_with fail
    go_ret
    exact ⟨rfl, HB5.out⟩
  obtain ⟨hck, r1, r2, r3, r4⟩ := askOf_range hask
  obtain ⟨fn, rfl⟩ : ∃ fn : Nat, f = (fn : Int) := ⟨f.toNat, by omega⟩
  have HC := hid hask
  have HCK := hid hck
  have HG := hid (Board.check_good hck)
  have HFI := hid (Board.check_fine HWI.out.1 hck)
  have HFN : Hid (fn < b.fits.length) := hid (by rw [HFI.out.fits]; omega)
  clear hask hck
  by_cases hex : ∃ a, b.As a
  case neg =>
    have HNO := hid hex
    rcases hmay with ⟨h0, _⟩ | ⟨_, _, rfl⟩ | ⟨_, h0, _⟩
    · exact absurd HC.out h0
    rotate_left
    · exact absurd h0 hex
    clear hex
    go_wp2_with fail
    refine HTHR.out.mono ?_
    rintro e w3 ⟨hb3, hpost⟩
    rcases hpost with ⟨h0, _⟩ | ⟨_, _, rfl⟩ | ⟨_, h0, _⟩
    · exact absurd HC.out h0
    rotate_left
    · exact absurd h0 HNO.out
    have k0 := (Kept.of_below hb3) _ _ m0
    have k1 := (Kept.of_below hb3) _ _ m1
    have k2 := (Kept.of_below hb3) _ _ m2
    have HB3 := hid (HB2.out.trans (hb3.mono HB2.out.size))
    clear hb3 m0 m1 m2
    have m0 := k0
    have m1 := k1
    have m2 := k2
    clear k0 k1 k2
    go_wp2_with fail
    refine (HREF.out w3 HB3.out).mono ?_
    rintro e w4 ⟨hb4, hpost⟩
    rcases hpost with ⟨h0, _⟩ | ⟨_, _, rfl⟩ | ⟨_, h0, _⟩
    · exact absurd HC.out h0
    rotate_left
    · exact absurd h0 HNO.out
    have HB4 := hid (HB3.out.trans (hb4.mono HB3.out.size))
    clear hb4
    go_wp2_with fail
    refine (matched_true w4).mono ?_
    rintro e w5 ⟨rfl, hb5⟩
    have HB5 := hid (HB4.out.trans (hb5.mono HB4.out.size))
    clear hb5
    go_wp2_with fail
    go_ret
    exact ⟨rfl, HB5.out⟩
  have HEX := hid hex
  rcases hmay with ⟨h0, _⟩ | ⟨_, h0, _⟩ | ⟨_, _, rfl⟩
  · exact absurd HC.out h0
  · exact absurd hex h0
  clear hex
  rcases hcan : canB b.fits (pieces b.slots) ((fn : Int)).toNat s with _ | _
  · -- no assignment gives the find the slot
    have HNC : Hid (∀ a, b.As a → hasOf a fn ≠ s) := hid (fun a ha e => by
      have : canB b.fits (pieces b.slots) fn s = true := canB_true.2 ⟨a, ha, e⟩
      rw [Int.toNat_natCast] at hcan
      rw [hcan] at this
      cases this)
    clear hcan
    go_wp2_with fail
    refine HTHR.out.mono ?_
    rintro e w3 ⟨hb3, hpost⟩
    rcases hpost with ⟨h0, _⟩ | ⟨_, h0, _⟩ | ⟨_, _, ⟨_, _, a, _, _, ha, he⟩ | ⟨rfl, _⟩⟩
    · exact absurd HC.out h0
    · exact absurd HEX.out h0
    · exact absurd (by rwa [Int.toNat_natCast] at he) (HNC.out a ha)
    have k0 := (Kept.of_below hb3) _ _ m0
    have k1 := (Kept.of_below hb3) _ _ m1
    have k2 := (Kept.of_below hb3) _ _ m2
    have HB3 := hid (HB2.out.trans (hb3.mono HB2.out.size))
    clear hb3 m0 m1 m2
    have m0 := k0
    have m1 := k1
    have m2 := k2
    clear k0 k1 k2
    go_wp2_with fail
    refine (HREF.out w3 HB3.out).mono ?_
    rintro e w4 ⟨hb4, hpost⟩
    obtain ⟨Ah, ch, H, rfl, hH, hH80, hdeny⟩ : ∃ (Ah : Option Addr) (ch : Nat) (H : List Int), e = .returned (.tuple #[.slice Ah H.length ch, .bool true, .int .i64 0]) ∧ IntsAt w4 Ah H ∧ H.length ≤ 80 ∧ ((s ∉ fitOf b.fits fn ∧ H = []) ∨ (s ∈ fitOf b.fits fn ∧ Denial b fn s H)) := by
      rcases hpost with ⟨h0, _⟩ | ⟨_, h0, _⟩ | ⟨_, _, ⟨hm, rfl⟩ | ⟨_, ⟨a, ha, he⟩, _⟩ | ⟨hm, H, Ah, ch, rfl, hH, hD⟩⟩
      · exact absurd HC.out h0
      · exact absurd HEX.out h0
      · exact ⟨none, 0, [], rfl, IntsAt.nil _ _, by simp, .inl ⟨by rwa [Int.toNat_natCast] at hm, rfl⟩⟩
      · exact absurd (by rwa [Int.toNat_natCast] at he) (HNC.out a ha)
      · rw [Int.toNat_natCast] at hm hD
        exact ⟨Ah, ch, H, rfl, hH, by have := rise_len hD.short.rise; omega, .inr ⟨hm, hD⟩⟩
    have k0 := (Kept.of_below hb4) _ _ m0
    have k1 := (Kept.of_below hb4) _ _ m1
    have k2 := (Kept.of_below hb4) _ _ m2
    have HB4 := hid (HB3.out.trans (hb4.mono HB3.out.size))
    have HH4 := hid hH
    have HD := hid hdeny
    clear hb4 hH hdeny hpost m0 m1 m2
    obtain ⟨t, ht⟩ : ∃ t, asB b l2 = t := ⟨_, rfl⟩
    have HAST := hid ht
    go_wp2_with fail
    refine (meets_t b Af As At A2 cf cs ct c2 l2 w4 HWI.out.1 HCK.out q2 (hB0.out.kept (Kept.of_below HB4.out)) (hL20.out.kept (Kept.of_below HB4.out)) ht).mono ?_
    rintro e w5 ⟨rfl, hb5⟩
    have m0 := (Kept.of_below hb5) _ _ k0
    have m1 := (Kept.of_below hb5) _ _ k1
    have m2 := (Kept.of_below hb5) _ _ k2
    have HB5 := hid (HB4.out.trans (hb5.mono HB4.out.size))
    have HH5 := hid (HH4.out.kept (Kept.of_below hb5))
    clear hb5 k0 k1 k2 ht
    go_wp2_with fail
    refine (checkRefuse_any b Af As At A1 cf cs ct cl fn s l1 w5 HWI.out.1 q1 (hB0.out.kept (Kept.of_below HB5.out)) (hL10.out.kept (Kept.of_below HB5.out))).mono ?_
    rintro e w6 ⟨hb6, hpost⟩
    obtain ⟨u, rfl⟩ : ∃ u : Bool, e = .returned (.tuple #[.bool u, .int .i64 0]) := by
      rcases hpost with ⟨h0, _⟩ | ⟨_, _, rfl⟩ | ⟨_, _, rfl⟩
      · exact absurd HC.out h0
      · exact ⟨_, rfl⟩
      · exact ⟨_, rfl⟩
    have k0 := (Kept.of_below hb6) _ _ m0
    have k1 := (Kept.of_below hb6) _ _ m1
    have k2 := (Kept.of_below hb6) _ _ m2
    have HB6 := hid (HB5.out.trans (hb6.mono HB5.out.size))
    have HH6 := hid (HH5.out.kept (Kept.of_below hb6))
    clear hb6 hpost m0 m1 m2
    have hrr := refRefuse_any b Af As At Ah cf cs ct ch fn s H w6 HWI.out.1 hH80 (hB0.out.kept (Kept.of_below HB6.out)) HH6.out
    have hrr2 : Hid (Calls Try.prog 35 #[.agg #[.slice Af b.finds.length cf, .slice As b.slots.length cs, .slice At b.fits.length ct], .int .i64 fn, .int .i64 s, .slice Ah H.length ch] w6 fun e w' => e = .returned (.tuple #[.bool true, .int .i64 0]) ∧ Below w6.heap.size w6 w') := hid (hrr.mono fun e w' ⟨hb, hp⟩ => by
      rcases HD.out with ⟨hm, rfl⟩ | ⟨hm, hD⟩
      · rcases hp with ⟨h0, _⟩ | ⟨_, _, rfl⟩ | ⟨_, h1, _⟩
        · exact absurd HC.out h0
        · exact ⟨rfl, hb⟩
        · exact absurd (by rwa [Int.toNat_natCast] at h1) hm
      · rcases hp with ⟨h0, _⟩ | ⟨_, h1, _⟩ | ⟨_, _, rfl⟩
        · exact absurd HC.out h0
        · exact absurd hm (by rwa [Int.toNat_natCast] at h1)
        · rw [Int.toNat_natCast, denied_iff.2 hD]; exact ⟨rfl, hb⟩)
    clear hrr
    rcases t with _ | _
    · rcases u with _ | _
      all_goals
        go_wp2_with fail
        refine hrr2.out.mono ?_
        rintro e w7 ⟨rfl, hb7⟩
        have HB7 := hid (HB6.out.trans (hb7.mono HB6.out.size))
        clear hb7
        go_wp2_with fail
        refine (matched_true w7).mono ?_
        rintro e w8 ⟨rfl, hb8⟩
        have HB8 := hid (HB7.out.trans (hb8.mono HB7.out.size))
        clear hb8
        go_wp2_with fail
        go_ret
        exact ⟨rfl, HB8.out⟩
    · have hal : Hid (fn < l2.length) := hid (by rw [(asB_true.1 HAST.out).len]; exact HFN.out)
      obtain ⟨lb, loff, rfl, hlc⟩ := (hL20.out.kept (Kept.of_below HB6.out)) (by have := hal.out; omega)
      have hv := hlc fn hal.out
      have hne : l2[fn]'(hal.out) ≠ s := fun e => HNC.out l2 (asB_true.1 HAST.out) (by rw [hasOf_lt hal.out]; exact e)
      have dne : (l2[fn]'(hal.out) == s) = false := beq_eq_false_iff_ne.2 hne
      have z0 : (0 : Int) ≤ fn := by omega
      have z1 : (fn : Int) < l2.length := by have := hal.out; omega
      obtain ⟨x, hx⟩ : ∃ x, l2[fn]'(hal.out) = x := ⟨_, rfl⟩
      rw [hx] at hv dne
      clear hlc hne hx
      rcases u with _ | _
      all_goals
        go_wp2_with fail
        refine hrr2.out.mono ?_
        rintro e w7 ⟨rfl, hb7⟩
        have HB7 := hid (HB6.out.trans (hb7.mono HB6.out.size))
        clear hb7
        go_wp2_with fail
        refine (matched_true w7).mono ?_
        rintro e w8 ⟨rfl, hb8⟩
        have HB8 := hid (HB7.out.trans (hb8.mono HB7.out.size))
        clear hb8
        go_wp2_with fail
        go_ret
        exact ⟨rfl, HB8.out⟩
  · -- some assignment gives it
    have HYC : Hid (∃ a, b.As a ∧ hasOf a fn = s) := hid (by rw [Int.toNat_natCast] at hcan; exact canB_true.1 hcan)
    clear hcan
    go_wp2_with fail
    refine HTHR.out.mono ?_
    rintro e w3 ⟨hb3, hpost⟩
    rcases hpost with ⟨h0, _⟩ | ⟨_, h0, _⟩ | ⟨_, _, ⟨Aa, ca, a, rfl, hA, ha, he⟩ | ⟨_, h0⟩⟩
    · exact absurd HC.out h0
    · exact absurd HEX.out h0
    rotate_left
    · obtain ⟨a, ha, he⟩ := HYC.out
      exact absurd he (by have := h0 a ha; rwa [Int.toNat_natCast] at this)
    have HA3 := hid hA
    have HAS := hid ha
    have HE : Hid (hasOf a fn = s) := hid (by rwa [Int.toNat_natCast] at he)
    have hal : Hid (fn < a.length) := hid (by rw [ha.len]; exact HFN.out)
    have hal80 : a.length ≤ 80 := by rw [ha.len]; omega
    have HFIT : Hid (s ∈ fitOf b.fits fn) := hid (by
      have h1 : fitOf b.fits fn ≠ [] := fun e => by have := ha.nobody fn e; rw [HE.out] at this; omega
      have := ha.fit fn h1
      rwa [HE.out] at this)
    clear hA ha he
    have k0 := (Kept.of_below hb3) _ _ m0
    have k1 := (Kept.of_below hb3) _ _ m1
    have k2 := (Kept.of_below hb3) _ _ m2
    have HB3 := hid (HB2.out.trans (hb3.mono HB2.out.size))
    clear hb3 m0 m1 m2
    have m0 := k0
    have m1 := k1
    have m2 := k2
    clear k0 k1 k2
    go_wp2_with fail
    refine (HREF.out w3 HB3.out).mono ?_
    rintro e w4 ⟨hb4, hpost⟩
    rcases hpost with ⟨h0, _⟩ | ⟨_, h0, _⟩ | ⟨_, _, ⟨hm, _⟩ | ⟨_, _, rfl⟩ | ⟨_, H, Ah, ch, _, _, hD⟩⟩
    · exact absurd HC.out h0
    · exact absurd HEX.out h0
    · exact absurd HFIT.out (by rwa [Int.toNat_natCast] at hm)
    rotate_left
    · rw [Int.toNat_natCast] at hD
      exact absurd HE.out (hD.no HCK.out r3 r4 HAS.out)
    have k0 := (Kept.of_below hb4) _ _ m0
    have k1 := (Kept.of_below hb4) _ _ m1
    have k2 := (Kept.of_below hb4) _ _ m2
    have HB4 := hid (HB3.out.trans (hb4.mono HB3.out.size))
    have HA4 := hid (HA3.out.kept (Kept.of_below hb4))
    clear hb4 m0 m1 m2
    obtain ⟨t, ht⟩ : ∃ t, asB b l2 = t := ⟨_, rfl⟩
    have HAST := hid ht
    go_wp2_with fail
    refine (meets_t b Af As At A2 cf cs ct c2 l2 w4 HWI.out.1 HCK.out q2 (hB0.out.kept (Kept.of_below HB4.out)) (hL20.out.kept (Kept.of_below HB4.out)) ht).mono ?_
    rintro e w5 ⟨rfl, hb5⟩
    have m0 := (Kept.of_below hb5) _ _ k0
    have m1 := (Kept.of_below hb5) _ _ k1
    have m2 := (Kept.of_below hb5) _ _ k2
    have HB5 := hid (HB4.out.trans (hb5.mono HB4.out.size))
    have HA5 := hid (HA4.out.kept (Kept.of_below hb5))
    clear hb5 k0 k1 k2 ht
    go_wp2_with fail
    refine (checkRefuse_any b Af As At A1 cf cs ct cl fn s l1 w5 HWI.out.1 q1 (hB0.out.kept (Kept.of_below HB5.out)) (hL10.out.kept (Kept.of_below HB5.out))).mono ?_
    rintro e w6 ⟨hb6, hpost⟩
    obtain rfl : e = .returned (.tuple #[.bool false, .int .i64 0]) := by
      rcases hpost with ⟨h0, _⟩ | ⟨_, h1, _⟩ | ⟨_, _, rfl⟩
      · exact absurd HC.out h0
      · exact absurd HFIT.out (by rwa [Int.toNat_natCast] at h1)
      · refine ret_b0 ?_
        rw [Int.toNat_natCast]
        rcases e : deniedB b fn s l1 with _ | _
        · rfl
        · exact absurd HE.out ((denied_iff.1 e).no HCK.out r3 r4 HAS.out)
    have k0 := (Kept.of_below hb6) _ _ m0
    have k1 := (Kept.of_below hb6) _ _ m1
    have k2 := (Kept.of_below hb6) _ _ m2
    have HB6 := hid (HB5.out.trans (hb6.mono HB5.out.size))
    have HA6 := hid (HA5.out.kept (Kept.of_below hb6))
    clear hb6 hpost m0 m1 m2
    obtain ⟨ab, aoff, rfl, hac⟩ := HA6.out (by have := hal.out; omega)
    have hav := hac fn hal.out
    rw [← hasOf_lt hal.out, HE.out] at hav
    have z2 : (0 : Int) ≤ fn := by omega
    have z3 : (fn : Int) < a.length := by have := hal.out; omega
    have hrm : Hid (Calls Try.prog 34 #[.agg #[.slice Af b.finds.length cf, .slice As b.slots.length cs, .slice At b.fits.length ct], .slice (some ⟨ab, aoff, none⟩) a.length ca] w6 fun e w' => e = .returned (.tuple #[.bool true, .int .i64 0]) ∧ Below w6.heap.size w6 w') :=
      hid (refMeets_t b Af As At (some ⟨ab, aoff, none⟩) cf cs ct ca a w6 HWI.out.1 HCK.out hal80 (hB0.out.kept (Kept.of_below HB6.out)) HA6.out (asB_yes HAS.out))
    have HAV := hid hav
    clear hac hav
    rcases t with _ | _
    · go_wp2_with fail
      refine hrm.out.mono ?_
      rintro e w7 ⟨rfl, hb7⟩
      have HB7 := hid (HB6.out.trans (hb7.mono HB6.out.size))
      have hav7 := (Kept.of_below hb7) _ _ HAV.out
      clear hb7
      go_wp2_with fail
      refine (matched_true w7).mono ?_
      rintro e w8 ⟨rfl, hb8⟩
      have hav8 := (Kept.of_below hb8) _ _ hav7
      have HB8 := hid (HB7.out.trans (hb8.mono HB7.out.size))
      clear hb8
      go_wp2_with fail
      go_ret
      exact ⟨rfl, HB8.out⟩
    · have hal2 : Hid (fn < l2.length) := hid (by rw [(asB_true.1 HAST.out).len]; exact HFN.out)
      obtain ⟨lb, loff, rfl, hlc⟩ := (hL20.out.kept (Kept.of_below HB6.out)) (by have := hal2.out; omega)
      have hv := hlc fn hal2.out
      have z0 : (0 : Int) ≤ fn := by omega
      have z1 : (fn : Int) < l2.length := by have := hal2.out; omega
      obtain ⟨x, hx⟩ : ∃ x, l2[fn]'(hal2.out) = x := ⟨_, rfl⟩
      rw [hx] at hv
      clear hlc hx
      rcases d : (x == s) with _ | _
      all_goals
        go_wp2_with fail
        refine hrm.out.mono ?_
        rintro e w7 ⟨rfl, hb7⟩
        have HB7 := hid (HB6.out.trans (hb7.mono HB6.out.size))
        have hav7 := (Kept.of_below hb7) _ _ HAV.out
        clear hb7
        go_wp2_with fail
        refine (matched_true w7).mono ?_
        rintro e w8 ⟨rfl, hb8⟩
        have hav8 := (Kept.of_below hb8) _ _ hav7
        have HB8 := hid (HB7.out.trans (hb8.mono HB7.out.size))
        clear hb8
        go_wp2_with fail
        go_ret
        exact ⟨rfl, HB8.out⟩
end Go.Proofs.Ytpmdjbjnihhjeaa
