/- The reference's CheckRefuse. -/
import Derived.Test.YtpmdjbjnihhjeaaDenied
namespace Go.Proofs.Ytpmdjbjnihhjeaa
open Go.RowKit

theorem askOf_in {b : Board} {f s : Int} (h : b.check = 0) (h0 : 0 ≤ f) (h1 : f < b.finds.length) (h2 : 0 ≤ s) (h3 : s < b.slots.length) : askOf b f s false false = 0 := by
  have e1 : inB f 0 (b.finds.length - 1) = true := by simp [inB]; omega
  have e2 : inB s 0 (b.slots.length - 1) = true := by simp [inB]; omega
  unfold askOf
  rw [if_pos h, e1, e2]
  rfl
theorem askOf_out {b : Board} {f s : Int} (h : b.check = 0) (hr : ¬ (0 ≤ f ∧ f < b.finds.length ∧ 0 ≤ s ∧ s < b.slots.length)) : askOf b f s false false = 1 := by
  have e : (!inB f 0 (b.finds.length - 1) || !inB s 0 (b.slots.length - 1)) = true := by
    rw [Bool.or_eq_true, Bool.not_eq_true', Bool.not_eq_true']
    by_cases h1 : inB f 0 (b.finds.length - 1) = true
    · right
      by_cases h2 : inB s 0 (b.slots.length - 1) = true
      · simp [inB] at h1 h2; omega
      · simpa using h2
    · left; simpa using h1
  unfold askOf
  rw [if_pos h]
  simp only [Bool.not_false, Bool.true_and]
  rw [if_pos e]

set_option maxRecDepth 100000 in
set_option maxHeartbeats 8000000 in
theorem there_any (b : Board) (Af As At : Option Addr) (cf cs ct : Nat) (w : World) (hs : b.small) (hB : BoardAt w Af As At b) (f s : Int) {k : Int} (hk : askOf b f s false false = k) :
    Calls Try.prog 72 #[.agg #[.slice Af b.finds.length cf, .slice As b.slots.length cs, .slice At b.fits.length ct], .int .i64 f, .int .i64 s] w fun e w' => e = .returned (.int .i64 k) ∧ Below w.heap.size w w' := by
  subst hk
  have HS := hid hs
  obtain ⟨W, hW, c0, c1, c2, hbW, hz⟩ := box3 w (.slice Af b.finds.length cf) (.slice As b.slots.length cs) (.slice At b.fits.length ct) 26
  have HBW := hid hbW
  have hBW := hid (hB.kept (Kept.of_below hbW))
  have n1 := hs.1
  have n2 := hs.2.1
  clear hz hbW hB hs
  by_cases hc : b.check = 0
  case neg =>
    have d1 : (b.check == 0) = false := beq_eq_false_iff_ne.2 hc
    have HC := hid hc
    clear hc
    go_enter Try.func72, Try.ntmps72
    go_wp2_with fail
    refine (refCheck_t Af As At cf cs ct b W HS.out hBW.out rfl).mono ?_
    rintro e w1 ⟨rfl, hb1⟩
    have HB1 := hid hb1
    clear hb1
    go_wp2_with fail
    go_ret
    exact ⟨ret_int (askOf_bad HC.out).symm, HBW.out.trans (HB1.out.mono HBW.out.size)⟩
  case pos =>
    have HC := hid hc
    clear hc
    go_enter Try.func72, Try.ntmps72
    go_wp2_with fail
    refine (refCheck_t Af As At cf cs ct b W HS.out hBW.out HC.out).mono ?_
    rintro e w1 ⟨rfl, hb1⟩
    have k0 := (Kept.of_below hb1) _ _ c0
    have k1 := (Kept.of_below hb1) _ _ c1
    have HB1 := hid (HBW.out.trans (hb1.mono HBW.out.size))
    clear hb1 hW c0 c1 c2
    by_cases r1 : f < 0
    · have R := hid r1
      go_wp2_with fail
      go_ret
      exact ⟨ret_int (askOf_out HC.out (by have := R.out; omega)).symm, HB1.out⟩
    by_cases r2 : (b.finds.length : Int) ≤ f
    · have R := hid r2
      go_wp2_with fail
      go_ret
      exact ⟨ret_int (askOf_out HC.out (by have := R.out; omega)).symm, HB1.out⟩
    by_cases r3 : s < 0
    · have R := hid r3
      go_wp2_with fail
      go_ret
      exact ⟨ret_int (askOf_out HC.out (by have := R.out; omega)).symm, HB1.out⟩
    by_cases r4 : (b.slots.length : Int) ≤ s
    · have R := hid r4
      go_wp2_with fail
      go_ret
      exact ⟨ret_int (askOf_out HC.out (by have := R.out; omega)).symm, HB1.out⟩
    have R := hid (askOf_in HC.out (f := f) (s := s) (by omega) (by omega) (by omega) (by omega))
    go_wp2_with fail
    go_ret
    exact ⟨ret_int R.out.symm, HB1.out⟩

set_option maxRecDepth 100000 in
set_option maxHeartbeats 8000000 in
theorem refRefuse_any (b : Board) (Af As At Al : Option Addr) (cf cs ct cl : Nat) (f s : Int) (H : List Int) (w : World) (hs : b.small) (hl : H.length ≤ 80) (hB : BoardAt w Af As At b) (hL : IntsAt w Al H) :
    Calls Try.prog 35 #[.agg #[.slice Af b.finds.length cf, .slice As b.slots.length cs, .slice At b.fits.length ct], .int .i64 f, .int .i64 s, .slice Al H.length cl] w (DenyCheck b f s H w) := by
  have HS := hid hs
  obtain ⟨W, hW, c0, c1, c2, hbW, hz⟩ := box3 w (.slice Af b.finds.length cf) (.slice As b.slots.length cs) (.slice At b.fits.length ct) 26
  have HBW := hid hbW
  have hBW := hid (hB.kept (Kept.of_below hbW))
  have hLW := hid (hL.kept (Kept.of_below hbW))
  clear hz hbW hB hs hL
  by_cases hc : askOf b f s false false = 0
  case neg =>
    have d1 : (askOf b f s false false != 0) = true := by simpa using hc
    have HC := hid hc
    clear hc
    go_enter Try.func35, Try.ntmps35
    go_wp2_with fail
    refine (there_any b Af As At cf cs ct W HS.out hBW.out f s rfl).mono ?_
    rintro e w1 ⟨rfl, hb1⟩
    have HB1 := hid hb1
    clear hb1
    go_wp2_with fail
    go_ret2
    exact ⟨HBW.out.trans (HB1.out.mono HBW.out.size), .inl ⟨HC.out, rfl⟩⟩
  case pos =>
    obtain ⟨hck, r1, r2, r3, r4⟩ := askOf_range hc
    obtain ⟨fn, rfl⟩ : ∃ fn : Nat, f = (fn : Int) := ⟨f.toNat, by omega⟩
    have HC := hid hc
    have HCK := hid hck
    have HFI := hid (Board.check_fine HS.out hck)
    have hfl : fn < b.fits.length := by rw [HFI.out.fits]; omega
    have i0 : (0 : Int) ≤ fn := by omega
    have i1 : (fn : Int) < b.fits.length := by omega
    obtain ⟨fb, foff, rfl, hfc⟩ := hBW.out.fits (by omega)
    obtain ⟨Aj, cj, f1, f2⟩ := hfc fn hfl
    have hlenL := HFI.out.lens _ (List.getElem_mem hfl)
    obtain ⟨L, hL⟩ : ∃ L, L = b.fits[fn] := ⟨_, rfl⟩
    rw [← hL] at f1 f2 hlenL
    have HL : Hid (fitOf b.fits ((fn : Int)).toNat = L) := hid (by rw [Int.toNat_natCast]; exact (fitOf_lt hfl).trans hL.symm)
    have HDE : Hid ((fn : Int) ∉ H → crowdB b H (-1) s = deniedB b ((fn : Int)).toNat s H) := hid (fun h => by rw [Int.toNat_natCast]; exact crowd_denied2 HFI.out.fits r3 r4 h)
    have HF2 := hid f2
    clear hc hck hfc hL f2
    go_enter Try.func35, Try.ntmps35
    go_wp2_with fail
    refine (there_any b Af As (some ⟨fb, foff, none⟩) cf cs ct W HS.out hBW.out fn s HC.out).mono ?_
    rintro e w1 ⟨rfl, hb1⟩
    have k0 := (Kept.of_below hb1) _ _ c0
    have k1 := (Kept.of_below hb1) _ _ c1
    have k2 := (Kept.of_below hb1) _ _ c2
    have kf := (Kept.of_below hb1) _ _ f1
    have HB1 := hid (HBW.out.trans (hb1.mono HBW.out.size))
    have hB1 := hid (hBW.out.kept (Kept.of_below hb1))
    have hL1 := hid (hLW.out.kept (Kept.of_below hb1))
    have HF3 := hid (HF2.out.kept (Kept.of_below hb1))
    clear hb1 hW c0 c1 c2 f1
    by_cases hmem : s ∈ L
    case neg =>
      have HM := hid hmem
      clear hmem
      go_wp2_with fail
      refine (has_t _ _ _ _ _ (by omega) HF3.out (decide_eq_false HM.out)).mono ?_
      rintro e w3 ⟨rfl, rfl⟩
      go_wp2_with fail
      go_ret2
      exact ⟨HB1.out, .inr (.inl ⟨HC.out, by rw [HL.out]; exact HM.out, rfl⟩)⟩
    case pos =>
      have HM := hid hmem
      clear hmem
      go_wp2_with fail
      refine (has_t _ _ _ _ _ (by omega) HF3.out (decide_eq_true HM.out)).mono ?_
      rintro e w3 ⟨rfl, rfl⟩
      go_wp2_with fail
      by_cases hin : (fn : Int) ∈ H
      · have HIN := hid hin
        clear hin
        refine (has_t _ _ _ _ _ (by omega) hL1.out (decide_eq_true HIN.out)).mono ?_
        rintro e w3 ⟨rfl, rfl⟩
        go_wp2_with fail
        go_ret2
        exact ⟨HB1.out, .inr (.inr ⟨HC.out, by rw [HL.out]; exact HM.out, ret_b0 (by rw [Int.toNat_natCast]; exact (denied_in HIN.out).symm)⟩)⟩
      · have HIN := hid hin
        clear hin
        refine (has_t _ _ _ _ _ (by omega) hL1.out (decide_eq_false HIN.out)).mono ?_
        rintro e w3 ⟨rfl, rfl⟩
        go_wp2_with fail
        refine (refShort_t b Af As (some ⟨fb, foff, none⟩) Al cf cs ct cl H s w1 HS.out HCK.out hl hB1.out hL1.out (HDE.out HIN.out)).mono ?_
        rintro e w2 ⟨rfl, hb2⟩
        have HB2 := hid hb2
        clear hb2
        go_wp2_with fail
        go_ret2
        exact ⟨HB1.out.trans (HB2.out.mono HB1.out.size), .inr (.inr ⟨HC.out, by rw [HL.out]; exact HM.out, rfl⟩)⟩
end Go.Proofs.Ytpmdjbjnihhjeaa
