/- MatchChecks, walked: the law's function returns true. -/
import Derived.Test.YtpmdjbjnihhjeaaRefDeny
import Derived.Test.YtpmdjbjnihhjeaaEitherLaw
namespace Go.Proofs.Ytpmdjbjnihhjeaa
open Go.RowKit

open Classical in
noncomputable def meetsB (b : Board) (l : List Int) : Bool := if b.check = 0 then asB b l else false
open Classical in
noncomputable def hallsB (b : Board) (H : List Int) : Bool := if b.check = 0 then hallB b H else false
open Classical in
noncomputable def deniesB (b : Board) (f s : Int) (H : List Int) : Bool := if askOf b f s false false = 0 then (if s ∈ fitOf b.fits f.toNat then deniedB b f.toNat s H else ((H.length : Int) == 0)) else false
open Classical in
noncomputable def nobodies (b : Board) : List Int := if b.check = 0 then b.nobody else []

theorem meets_is {b : Board} {l : List Int} {w : World} {e : Ending} {w' : World} (h : MeetsPost b l w e w') {t : Bool} {k : Int} (ht : meetsB b l = t) (hk : b.check = k) : e = .returned (.tuple #[.bool t, .int .i64 k]) ∧ Below w.heap.size w w' := by
  subst ht hk
  obtain ⟨hb, ⟨h0, rfl⟩ | ⟨h0, rfl⟩⟩ := h
  · exact ⟨by unfold meetsB; rw [if_neg h0], hb⟩
  · exact ⟨by unfold meetsB; rw [if_pos h0, h0], hb⟩
theorem halls_is {b : Board} {l : List Int} {w : World} {e : Ending} {w' : World} (h : HallCheck b l w e w') {t : Bool} {k : Int} (ht : hallsB b l = t) (hk : b.check = k) : e = .returned (.tuple #[.bool t, .int .i64 k]) ∧ Below w.heap.size w w' := by
  subst ht hk
  obtain ⟨hb, ⟨h0, rfl⟩ | ⟨h0, rfl⟩⟩ := h
  · exact ⟨by unfold hallsB; rw [if_neg h0], hb⟩
  · exact ⟨by unfold hallsB; rw [if_pos h0, h0], hb⟩
theorem denies_is {b : Board} {f s : Int} {l : List Int} {w : World} {e : Ending} {w' : World} (h : DenyCheck b f s l w e w') {t : Bool} {k : Int} (ht : deniesB b f s l = t) (hk : askOf b f s false false = k) : e = .returned (.tuple #[.bool t, .int .i64 k]) ∧ Below w.heap.size w w' := by
  subst ht hk
  obtain ⟨hb, ⟨h0, rfl⟩ | ⟨h0, h1, rfl⟩ | ⟨h0, h1, rfl⟩⟩ := h
  · exact ⟨by unfold deniesB; rw [if_neg h0], hb⟩
  · exact ⟨by unfold deniesB; rw [if_pos h0, if_neg h1, h0], hb⟩
  · exact ⟨by unfold deniesB; rw [if_pos h0, if_pos h1, h0], hb⟩
theorem nobody_is {b : Board} {w : World} {e : Ending} {w' : World} (h : NobodyPost b w e w') {k : Int} (hk : b.check = k) : Below w.heap.size w w' ∧ ∃ A c, e = .returned (.tuple #[.slice A (nobodies b).length c, .int .i64 k]) ∧ IntsAt w' A (nobodies b) := by
  subst hk
  obtain ⟨hb, ⟨h0, rfl⟩ | ⟨h0, A, c, rfl, hA⟩⟩ := h
  · refine ⟨hb, none, 0, ?_, ?_⟩
    · unfold nobodies; rw [if_neg h0]; rfl
    · unfold nobodies; rw [if_neg h0]; exact IntsAt.nil _ _
  · refine ⟨hb, A, c, ?_, ?_⟩
    · unfold nobodies; rw [if_pos h0, h0]
    · unfold nobodies; rw [if_pos h0]; exact hA
theorem nobodies_len {b : Board} (hs : b.small) : (nobodies b).length ≤ 70 := by
  unfold nobodies
  split
  · unfold Board.nobody
    rw [nats_length]
    exact Nat.le_trans (nobodyTo_len b _) hs.2.2.1
  · simp

set_option maxRecDepth 100000 in
set_option maxHeartbeats 32000000 in
theorem matchChecks_any (b : Board) (Af As At A1 A2 : Option Addr) (cf cs ct cl c2 : Nat) (f s : Int) (l1 l2 : List Int) (w : World) (hB : BoardAt w Af As At b) (hL1 : IntsAt w A1 l1) (hL2 : IntsAt w A2 l2) :
    Calls Try.prog 11 #[.agg #[.slice Af b.finds.length cf, .slice As b.slots.length cs, .slice At b.fits.length ct], .slice A1 l1.length cl, .int .i64 f, .int .i64 s, .slice A2 l2.length c2] w (LawPost w) := by
  obtain ⟨W, hW, b0, b1, b2, hbW, hz⟩ := box3 w (.slice Af b.finds.length cf) (.slice As b.slots.length cs) (.slice At b.fits.length ct) 26
  have HBW := hid hbW
  have hBW := hid (hB.kept (Kept.of_below hbW))
  have hB0 := hid hB
  have hL10 := hid hL1
  have hL20 := hid hL2
  clear hz hbW hB hL1 hL2
  go_enter Try.func11, Try.ntmps11
  go_wp2_with fail
  refine (wide_any b Af As At cf cs ct W hBW.out).mono ?_
  rintro e w1 ⟨t, rfl, hb1, hw1⟩
  have k0 := (Kept.of_below hb1) _ _ b0
  have k1 := (Kept.of_below hb1) _ _ b1
  have k2 := (Kept.of_below hb1) _ _ b2
  have HB1 := hid (HBW.out.trans (hb1.mono HBW.out.size))
  clear hb1 hW b0 b1 b2 hBW HBW
  rcases t with _ | _
  case false =>
    go_wp2_with fail
    refine (matched_true w1).mono ?_
    rintro e w2 ⟨rfl, hb2⟩
    have HB2 := hid hb2
    clear hb2
    go_wp2_with fail
    go_ret
    exact ⟨rfl, HB1.out.trans (HB2.out.mono HB1.out.size)⟩
  have HS := hid (hw1 rfl).1
  clear hw1
  by_cases q1 : l1.length ≤ 80
  case neg =>
    have : 80 < l1.length := by omega
    go_wp2_with fail
    refine (matched_true w1).mono ?_
    rintro e w2 ⟨rfl, hb2⟩
    have HB2 := hid hb2
    clear hb2
    go_wp2_with fail
    go_ret
    exact ⟨rfl, HB1.out.trans (HB2.out.mono HB1.out.size)⟩
  by_cases q2 : l2.length ≤ 80
  case neg =>
    have : 80 < l2.length := by omega
    go_wp2_with fail
    refine (matched_true w1).mono ?_
    rintro e w2 ⟨rfl, hb2⟩
    have HB2 := hid hb2
    clear hb2
    go_wp2_with fail
    go_ret
    exact ⟨rfl, HB1.out.trans (HB2.out.mono HB1.out.size)⟩
  obtain ⟨mt, hmt⟩ : ∃ t, meetsB b l1 = t := ⟨_, rfl⟩
  obtain ⟨ht, hht⟩ : ∃ t, hallsB b l2 = t := ⟨_, rfl⟩
  obtain ⟨dt, hdt⟩ : ∃ t, deniesB b f s l2 = t := ⟨_, rfl⟩
  obtain ⟨kc, hkc⟩ : ∃ k, b.check = k := ⟨_, rfl⟩
  obtain ⟨ka, hka⟩ : ∃ k, askOf b f s false false = k := ⟨_, rfl⟩
  have HMT := hid hmt
  have HHT := hid hht
  have HDT := hid hdt
  have HKC := hid hkc
  have HKA := hid hka
  have e1 : (mt != mt) = false := by simp
  have e2 : (ht != ht) = false := by simp
  have e3 : (kc != kc) = false := by simp
  have e4 : (dt == dt) = true := by simp
  have e5 : (ka == ka) = true := by simp
  have e6 : (kc == kc) = true := by simp
  clear hmt hht hdt hkc hka
  go_wp2_with fail
  refine (meets_any b Af As At A1 cf cs ct cl l1 w1 HS.out q1 (hB0.out.kept (Kept.of_below HB1.out)) (hL10.out.kept (Kept.of_below HB1.out))).mono fun e w2 hp => ?_
  obtain ⟨rfl, hb2⟩ := meets_is hp HMT.out HKC.out
  have m0 := (Kept.of_below hb2) _ _ k0
  have m1 := (Kept.of_below hb2) _ _ k1
  have m2 := (Kept.of_below hb2) _ _ k2
  have HB2 := hid (HB1.out.trans (hb2.mono HB1.out.size))
  clear hb2 k0 k1 k2 hp
  go_wp2_with fail
  refine (refMeets_any b Af As At A1 cf cs ct cl l1 w2 HS.out q1 (hB0.out.kept (Kept.of_below HB2.out)) (hL10.out.kept (Kept.of_below HB2.out))).mono fun e w3 hp => ?_
  obtain ⟨rfl, hb3⟩ := meets_is hp HMT.out HKC.out
  have k0 := (Kept.of_below hb3) _ _ m0
  have k1 := (Kept.of_below hb3) _ _ m1
  have k2 := (Kept.of_below hb3) _ _ m2
  have HB3 := hid (HB2.out.trans (hb3.mono HB2.out.size))
  clear hb3 m0 m1 m2 hp
  go_wp2_with fail
  refine (checkHall_any b Af As At A2 cf cs ct c2 l2 w3 HS.out q2 (hB0.out.kept (Kept.of_below HB3.out)) (hL20.out.kept (Kept.of_below HB3.out))).mono fun e w4 hp => ?_
  obtain ⟨rfl, hb4⟩ := halls_is hp HHT.out HKC.out
  have m0 := (Kept.of_below hb4) _ _ k0
  have m1 := (Kept.of_below hb4) _ _ k1
  have m2 := (Kept.of_below hb4) _ _ k2
  have HB4 := hid (HB3.out.trans (hb4.mono HB3.out.size))
  clear hb4 k0 k1 k2 hp
  go_wp2_with fail
  refine (refCheckHall_any b Af As At A2 cf cs ct c2 l2 w4 HS.out q2 (hB0.out.kept (Kept.of_below HB4.out)) (hL20.out.kept (Kept.of_below HB4.out))).mono fun e w5 hp => ?_
  obtain ⟨rfl, hb5⟩ := halls_is hp HHT.out HKC.out
  have k0 := (Kept.of_below hb5) _ _ m0
  have k1 := (Kept.of_below hb5) _ _ m1
  have k2 := (Kept.of_below hb5) _ _ m2
  have HB5 := hid (HB4.out.trans (hb5.mono HB4.out.size))
  clear hb5 m0 m1 m2 hp
  have hck : ∀ wx, Below w5.heap.size w5 wx → BoardAt wx Af As At b := fun wx h => hB0.out.kept (Kept.of_below (HB5.out.trans (h.mono HB5.out.size)))
  have HCK := hid hck
  clear hck
  go_wp2_with fail
  go_region_held3 (fun w' => w'.cell? ⟨w.heap.size, 0, none⟩ = some (.slice Af b.finds.length cf) ∧ w'.cell? ⟨w.heap.size, 1, none⟩ = some (.slice As b.slots.length cs) ∧ w'.cell? ⟨w.heap.size, 2, none⟩ = some (.slice At b.fits.length ct) ∧ Below w5.heap.size w5 w')
    (first | exact ⟨k0, k1, k2, (Below.refl _ _).drew⟩ | assumption | exact keep3 (by assumption) hbel)
    (first
      | (go_at_call 47; refine (check_t _ _ _ _ _ _ b _ HS.out (HCK.out _ (And.right (And.right (And.right (by assumption))))) HKC.out).mono ?_; rintro e w' ⟨rfl, hbel⟩)
      | (go_at_call 19; refine (refCheck_t _ _ _ _ _ _ b _ HS.out (HCK.out _ (And.right (And.right (And.right (by assumption))))) HKC.out).mono ?_; rintro e w' ⟨rfl, hbel⟩))
  all_goals
    rename World => w6
    have hheld : w6.cell? ⟨w.heap.size, 0, none⟩ = some (.slice Af b.finds.length cf) ∧ w6.cell? ⟨w.heap.size, 1, none⟩ = some (.slice As b.slots.length cs) ∧ w6.cell? ⟨w.heap.size, 2, none⟩ = some (.slice At b.fits.length ct) ∧ Below w5.heap.size w5 w6 := by assumption
    obtain ⟨m0, m1, m2, hb6⟩ := hheld
    have HB6 := hid (HB5.out.trans (hb6.mono HB5.out.size))
    have m0' := m0
    clear k0 k1 k2 hb6 HCK
    go_wp2_with fail
    refine (checkRefuse_any b Af As At A2 cf cs ct c2 f s l2 w6 HS.out q2 (hB0.out.kept (Kept.of_below HB6.out)) (hL20.out.kept (Kept.of_below HB6.out))).mono fun e w7 hp => ?_
    obtain ⟨rfl, hb7⟩ := denies_is hp HDT.out HKA.out
    have k0 := (Kept.of_below hb7) _ _ m0
    have k1 := (Kept.of_below hb7) _ _ m1
    have k2 := (Kept.of_below hb7) _ _ m2
    have HB7 := hid (HB6.out.trans (hb7.mono HB6.out.size))
    clear hb7 m0 m1 m2 hp m0'
    go_wp2_with fail
    refine (refRefuse_any b Af As At A2 cf cs ct c2 f s l2 w7 HS.out q2 (hB0.out.kept (Kept.of_below HB7.out)) (hL20.out.kept (Kept.of_below HB7.out))).mono fun e w8 hp => ?_
    obtain ⟨rfl, hb8⟩ := denies_is hp HDT.out HKA.out
    have m0 := (Kept.of_below hb8) _ _ k0
    have m1 := (Kept.of_below hb8) _ _ k1
    have m2 := (Kept.of_below hb8) _ _ k2
    have HB8 := hid (HB7.out.trans (hb8.mono HB7.out.size))
    clear hb8 k0 k1 k2 hp
    go_wp2_with fail
    refine (nobody_any b Af As At cf cs ct w8 HS.out (hB0.out.kept (Kept.of_below HB8.out))).mono fun e w9 hp => ?_
    obtain ⟨hb9, An, cn, rfl, hAn⟩ := nobody_is hp HKC.out
    have k0 := (Kept.of_below hb9) _ _ m0
    have k1 := (Kept.of_below hb9) _ _ m1
    have k2 := (Kept.of_below hb9) _ _ m2
    have HB9 := hid (HB8.out.trans (hb9.mono HB8.out.size))
    have HAN := hid hAn
    clear hb9 m0 m1 m2 hp hAn
    go_wp2_with fail
    refine (refNobody_any b Af As At cf cs ct w9 HS.out (hB0.out.kept (Kept.of_below HB9.out))).mono fun e w10 hp => ?_
    obtain ⟨hb10, Ar, cr, rfl, hAr⟩ := nobody_is hp HKC.out
    have HB10 := hid (HB9.out.trans (hb10.mono HB9.out.size))
    have HAN2 := hid (HAN.out.kept (Kept.of_below hb10))
    have HAR := hid hAr
    clear hb10 k0 k1 k2 hp hAr HAN
    go_wp2_with fail
    refine (matched_true w10).mono ?_
    rintro e w11 ⟨rfl, hb11⟩
    have HB11 := hid (HB10.out.trans (hb11.mono HB10.out.size))
    have HAN3 := hid (HAN2.out.kept (Kept.of_below hb11))
    have HAR3 := hid (HAR.out.kept (Kept.of_below hb11))
    have hnl := nobodies_len HS.out
    clear hb11 HAN2 HAR
    go_wp2_with fail
    refine (same_t An Ar cn cr (nobodies b) (nobodies b) w11 (by omega) (by omega) HAN3.out HAR3.out (decide_eq_true rfl)).mono ?_
    rintro e w12 ⟨rfl, hd⟩
    have HB12 := hid (HB11.out.trans (hd.below _))
    clear hd
    go_wp2_with fail
    go_ret
    exact ⟨rfl, HB12.out⟩
end Go.Proofs.Ytpmdjbjnihhjeaa
