/- Hall and Refuse. -/
import Derived.Test.YtpmdjbjnihhjeaaEvery
namespace Go.Proofs.Ytpmdjbjnihhjeaa
open Go.RowKit

/-- What Hall comes to. -/
def HallPost (b : Board) (w : World) (e : Ending) (w' : World) : Prop :=
  Below w.heap.size w w' ∧
    ((b.check ≠ 0 ∧ e = .returned (.tuple #[.slice none 0 0, .bool false, .int .i64 b.check])) ∨
     (b.check = 0 ∧ (∃ a, b.As a) ∧ e = .returned (.tuple #[.slice none 0 0, .bool false, .int .i64 0])) ∨
     (b.check = 0 ∧ ∃ H A c, e = .returned (.tuple #[.slice A H.length c, .bool true, .int .i64 0]) ∧ IntsAt w' A H ∧ Short b.fits (pieces b.slots) H))

set_option maxRecDepth 100000 in
set_option maxHeartbeats 8000000 in
theorem hall_any (b : Board) (Af As At : Option Addr) (cf cs ct : Nat) (w : World) (hs : b.small) (hB : BoardAt w Af As At b) :
    Calls Try.prog 38 #[.agg #[.slice Af b.finds.length cf, .slice As b.slots.length cs, .slice At b.fits.length ct]] w (HallPost b w) := by
  have HS := hid hs
  obtain ⟨W, hW, c0, c1, c2, hbW, hz⟩ := box3 w (.slice Af b.finds.length cf) (.slice As b.slots.length cs) (.slice At b.fits.length ct) 26
  have HBW := hid hbW
  have hBW := hid (hB.kept (Kept.of_below hbW))
  clear hz hbW hB hs
  by_cases hc : b.check = 0
  case neg =>
    have d1 : (b.check != 0) = true := by simpa using hc
    have HC := hid hc
    clear hc
    go_enter Try.func38, Try.ntmps38
    go_wp2_with fail
    refine (check_any Af As At cf cs ct b W HS.out hBW.out).mono ?_
    rintro e w1 ⟨rfl, hb1⟩
    have HB1 := hid hb1
    clear hb1
    go_wp2_with fail
    go_ret3
    exact ⟨HBW.out.trans (HB1.out.mono HBW.out.size), .inl ⟨HC.out, rfl⟩⟩
  case pos =>
    have HC := hid hc
    have HG := hid (Board.check_good hc)
    have HFI := hid (Board.check_fine HS.out hc)
    clear hc
    go_enter Try.func38, Try.ntmps38
    go_wp2_with fail
    refine (check_t Af As At cf cs ct b W HS.out hBW.out HC.out).mono ?_
    rintro e w1 ⟨rfl, hb1⟩
    have k0 := (Kept.of_below hb1) _ _ c0
    have k1 := (Kept.of_below hb1) _ _ c1
    have k2 := (Kept.of_below hb1) _ _ c2
    have HB1 := hid hb1
    clear hb1 hW
    go_wp2_with fail
    refine (tried_any b Af As At cf cs ct w1 HFI.out.finds HFI.out.slots HFI.out.fits (hBW.out.kept (Kept.of_below HB1.out))).mono ?_
    rintro e w2 ⟨tb, hb, rb, rfl, hT⟩
    have HT := hid hT
    clear hT
    go_wp2_with fail
    obtain ⟨ht1, ht2, ht3⟩ := HT.out.trial
    refine (fill_any _ tb hb b.fits (pieces b.slots) ht1 ht2 (by rw [HFI.out.fits]; exact HFI.out.finds) (by rw [pieces_length]; exact HFI.out.slots) HFI.out.lens HFI.out.inside HFI.out.room (-1) (.inl (by omega)) w2 ht3 HT.out.hasRow).mono ?_
    have hbb : Below w.heap.size w w1 := HBW.out.trans (HB1.out.mono HBW.out.size)
    have hbb2 : ∀ w3, Only [hb] w2 w3 → Below w.heap.size w w3 := fun w3 ho => (hbb.trans (HT.out.kept.mono hbb.size)).trans (ho.below (fun x hx => by rw [List.mem_singleton] at hx; subst hx; exact Nat.le_trans hbb.size HT.out.lo.2.1) (Nat.le_trans hbb.size HT.out.kept.size))
    have HBB := hid hbb2
    clear hbb hbb2
    rintro e w3 ⟨ho, ⟨rfl, has, hF, hrow⟩ | ⟨H, A, c, rfl, hA, hS⟩⟩
    · have HO := hid ho
      have HF2 := hid hF
      clear ho hF hrow ht1 ht2 ht3
      go_wp2_with fail
      go_ret3
      exact ⟨HBB.out _ HO.out, .inr (.inl ⟨HC.out, ⟨has, HF2.out.asg (by omega)⟩, rfl⟩)⟩
    · have HO := hid ho
      have HSS := hid hS
      have HA := hid hA
      clear ho hS hA ht1 ht2 ht3
      go_wp2_with fail
      go_ret3
      exact ⟨HBB.out _ HO.out, .inr (.inr ⟨HC.out, H, A, c, rfl, HA.out, HSS.out.short⟩)⟩

theorem Filled.fix {fits : List (List Int)} {room has : List Int} {f : Nat} {slot : Int} (hw : Inside fits room.length) (h : Filled fits (less room slot) (f : Int) has) (hm : slot ∈ fitOf fits f) : Asg fits room (has.set f slot) := by
  have hs := hw f _ hm
  have hfn : fitOf fits f ≠ [] := fun e => by rw [e] at hm; simp at hm
  have hfl : f < fits.length := fitOf_ne hfn
  have hfh : f < has.length := by rw [h.part.lenH]; exact hfl
  have hf1 : hasOf has f = -1 := (h.none f hfl).2 (.inl rfl)
  refine ⟨by simpa using h.part.lenH, fun g hg => ?_, fun g hg => ?_, fun s h0 h1 => ?_⟩
  · have e : g ≠ f := fun e => hfn (e ▸ hg)
    rw [hasOf_set _ hfh, if_neg e]
    rcases Nat.lt_or_ge g fits.length with h2 | h2
    · exact (h.none g h2).2 (.inr hg)
    · exact hasOf_ge (by rw [h.part.lenH]; exact h2)
  · rw [hasOf_set _ hfh]
    split
    · rename_i e; rw [e]; exact hm
    · rename_i e
      rcases h.part.vals g with k | k
      · rcases (h.none g (fitOf_ne hg)).1 k with k2 | k2
        · omega
        · exact absurd k2 hg
      · exact k
  · have h2 := h.part.loads s h0 (by rw [less_length]; exact h1)
    rw [roomOf_less hs.1 hs.2 h0] at h2
    rw [loadOf_set _ _ hfh, hf1, if_neg (by omega)]
    by_cases e : s = slot
    · subst e; rw [if_pos rfl] at h2; rw [if_pos rfl]; omega
    · rw [if_neg e] at h2; rw [if_neg (fun k => e k.symm)]; omega

/-- A denial of a slot that the find fits. -/
structure Denial (b : Board) (f : Nat) (s : Int) (H : List Int) : Prop where
  short : Short b.fits (less (pieces b.slots) s) H
  out : (f : Int) ∉ H
theorem Denial.no {b : Board} {f : Nat} {s : Int} {H : List Int} (hc : b.check = 0) (h : Denial b f s H) (h0 : 0 ≤ s) (h1 : s < b.slots.length) {a : List Int} (ha : b.As a) : hasOf a f ≠ s := fun e =>
  denied_no (Board.check_good hc).inside h0 (by rw [pieces_length]; exact h1) h.short h.out ha e

/-- What Refuse comes to. -/
def RefusePost (b : Board) (f s : Int) (w : World) (e : Ending) (w' : World) : Prop :=
  Below w.heap.size w w' ∧
    ((askOf b f s false false ≠ 0 ∧ e = .returned (.tuple #[.slice none 0 0, .bool false, .int .i64 (askOf b f s false false)])) ∨
     (askOf b f s false false = 0 ∧ (¬ ∃ a, b.As a) ∧ e = .returned (.tuple #[.slice none 0 0, .bool false, .int .i64 40])) ∨
     (askOf b f s false false = 0 ∧ (∃ a, b.As a) ∧
       ((s ∉ fitOf b.fits f.toNat ∧ e = .returned (.tuple #[.slice none 0 0, .bool true, .int .i64 0])) ∨
        (s ∈ fitOf b.fits f.toNat ∧ (∃ a, b.As a ∧ hasOf a f.toNat = s) ∧ e = .returned (.tuple #[.slice none 0 0, .bool false, .int .i64 0])) ∨
        (s ∈ fitOf b.fits f.toNat ∧ ∃ H A c, e = .returned (.tuple #[.slice A H.length c, .bool true, .int .i64 0]) ∧ IntsAt w' A H ∧ Denial b f.toNat s H))))

set_option maxRecDepth 100000 in
set_option maxHeartbeats 8000000 in
theorem refuse_any (b : Board) (Af As At : Option Addr) (cf cs ct : Nat) (w : World) (hs : b.small) (hB : BoardAt w Af As At b) (f s : Int) :
    Calls Try.prog 31 #[.agg #[.slice Af b.finds.length cf, .slice As b.slots.length cs, .slice At b.fits.length ct], .int .i64 f, .int .i64 s] w (RefusePost b f s w) := by
  have HS := hid hs
  obtain ⟨W, hW, c0, c1, c2, hbW, hz⟩ := box3 w (.slice Af b.finds.length cf) (.slice As b.slots.length cs) (.slice At b.fits.length ct) 26
  have HBW := hid hbW
  have hBW := hid (hB.kept (Kept.of_below hbW))
  clear hz hbW hB hs
  by_cases hc : askOf b f s false false = 0
  case neg =>
    have d1 : (askOf b f s false false != 0) = true := by simpa using hc
    have HC := hid hc
    clear hc
    go_enter Try.func31, Try.ntmps31
    go_wp2_with fail
    refine (both_any b Af As At cf cs ct W HS.out hBW.out f s rfl).mono ?_
    rintro e w1 ⟨rfl, hb1⟩
    have HB1 := hid hb1
    clear hb1
    go_wp2_with fail
    go_ret3
    exact ⟨HBW.out.trans (HB1.out.mono HBW.out.size), .inl ⟨HC.out, rfl⟩⟩
  case pos =>
    obtain ⟨hck, r1, r2, r3, r4⟩ := askOf_range hc
    obtain ⟨fn, rfl⟩ : ∃ fn : Nat, f = (fn : Int) := ⟨f.toNat, by omega⟩
    obtain ⟨sn, rfl⟩ : ∃ sn : Nat, s = (sn : Int) := ⟨s.toNat, by omega⟩
    have HC := hid hc
    have HCK := hid hck
    have HG := hid (Board.check_good hck)
    have HFI := hid (Board.check_fine HS.out hck)
    have hfl : fn < b.fits.length := by rw [HFI.out.fits]; omega
    have hsl : sn < b.slots.length := by omega
    obtain ⟨fb, foff, rfl, hfc⟩ := hBW.out.fits (by omega)
    obtain ⟨Aj, cj, f1, f2⟩ := hfc fn hfl
    have hlenL := HFI.out.lens _ (List.getElem_mem hfl)
    obtain ⟨L, hL⟩ : ∃ L, L = b.fits[fn] := ⟨_, rfl⟩
    rw [← hL] at f1 f2 hlenL
    have HL : Hid (fitOf b.fits ((fn : Int)).toNat = L) := hid (by rw [Int.toNat_natCast]; exact (fitOf_lt hfl).trans hL.symm)
    have HF2 := hid f2
    clear hc hck hfc hL f2
    go_enter Try.func31, Try.ntmps31
    go_wp2_with fail
    refine (both_any b Af As (some ⟨fb, foff, none⟩) cf cs ct W HS.out hBW.out fn sn HC.out).mono ?_
    rintro e w1 ⟨rfl, hb1⟩
    have k0 := (Kept.of_below hb1) _ _ c0
    have k1 := (Kept.of_below hb1) _ _ c1
    have k2 := (Kept.of_below hb1) _ _ c2
    have kf := (Kept.of_below hb1) _ _ f1
    have HB1 := hid hb1
    clear hb1 hW c0 c1 c2 f1
    go_wp2_with fail
    refine (matched_any b Af As (some ⟨fb, foff, none⟩) cf cs ct w1 HFI.out (hBW.out.kept (Kept.of_below HB1.out))).mono ?_
    have hbb : Below w.heap.size w w1 := HBW.out.trans (HB1.out.mono HBW.out.size)
    rintro e w2 (⟨tb, rfl, w0, hb, rb, has, h01, hT, hA⟩ | ⟨rfl, hb2, H, hS⟩)
    · have hb12 : Below w1.heap.size w1 w2 := h01.trans (hT.kept.mono h01.size)
      have m0 := (Kept.of_below hb12) _ _ k0
      have m1 := (Kept.of_below hb12) _ _ k1
      have m2 := (Kept.of_below hb12) _ _ k2
      have mf := (Kept.of_below hb12) _ _ kf
      have hB2 := hid ((hBW.out.kept (Kept.of_below HB1.out)).kept (Kept.of_below hb12))
      have f2' := hid ((HF2.out.kept (Kept.of_below HB1.out)).kept (Kept.of_below hb12))
      have HA := hid hA
      have HBB := hid (hbb.trans (hb12.mono hbb.size))
      clear h01 hT hA hb12 k0 k1 k2 kf hbb
      by_cases hmem : (sn : Int) ∈ L
      case neg =>
        have HM := hid hmem
        clear hmem
        go_wp2_with fail
        refine (contains_t _ _ _ _ _ (by omega) f2'.out (decide_eq_false HM.out)).mono ?_
        rintro e w3 ⟨rfl, rfl⟩
        go_wp2_with fail
        go_ret3
        exact ⟨HBB.out, .inr (.inr ⟨HC.out, ⟨has, HA.out⟩, .inl ⟨by rw [HL.out]; exact HM.out, rfl⟩⟩)⟩
      case pos =>
        have HM := hid hmem
        have HM2 : Hid ((sn : Int) ∈ fitOf b.fits fn) := hid (by have := HL.out; rw [Int.toNat_natCast] at this; rw [this]; exact hmem)
        clear hmem
        go_wp2_with fail
        refine (contains_t _ _ _ _ _ (by omega) f2'.out (decide_eq_true HM.out)).mono ?_
        rintro e w3 ⟨rfl, rfl⟩
        go_wp2_with fail
        refine (tried_any b Af As (some ⟨fb, foff, none⟩) cf cs ct w2 HFI.out.finds HFI.out.slots HFI.out.fits hB2.out).mono ?_
        rintro e w4 ⟨ub, uh, ur, rfl, hU⟩
        have hsp : sn < (pieces b.slots).length := by rw [pieces_length]; exact hsl
        have hpl := pieces_length b.slots
        obtain ⟨Ar, cr, v3, v3r⟩ := hU.roomAt
        have hAr := v3r (by omega)
        subst hAr
        have v5 := (hU.roomRow sn hsp).1
        have v5f := (hU.roomRow sn hsp).2
        have hr1 := HG.out.rooms (sn : Int) (by omega) (by omega)
        rw [roomOf_lt hsp] at hr1
        have b1 := hr1.1
        have b2 := hr1.2
        have U2 := hU.setRoom sn ((pieces b.slots)[sn] - 1)
        obtain ⟨W2, hW2⟩ : ∃ W2, w4.setCell ⟨ur, sn, none⟩ (.int .i64 ((pieces b.slots)[sn] - 1)) = W2 := ⟨_, rfl⟩
        rw [hW2, ← less_eq hsp] at U2
        have HU2 := hid U2
        have z1 : (0 : Int) ≤ sn := by omega
        have z2 : (sn : Int) < (pieces b.slots).length := by omega
        have HPL := hid hpl
        clear hpl hU v3r hr1 U2 m0 m1 m2 mf
        go_wp2_with fail
        obtain ⟨ht1, ht2, ht3⟩ := HU2.out.trial
        refine (fill_any _ ub uh b.fits (less (pieces b.slots) sn) ht1 ht2 (by rw [HFI.out.fits]; exact HFI.out.finds) (by rw [less_length, pieces_length]; exact HFI.out.slots) HFI.out.lens (by rw [less_length]; exact HFI.out.inside)
          (fun x h0 h1 => by rw [less_length] at h1; rw [roomOf_less (by omega) (by omega) h0]; have := HG.out.rooms x h0 h1; split <;> omega) fn (.inr (by omega)) W2 ht3 HU2.out.hasRow).mono ?_
        have hbb2 : ∀ w3, Only [uh] W2 w3 → Below w.heap.size w w3 := fun w3 ho => (HBB.out.trans (HU2.out.kept.mono HBB.out.size)).trans (ho.below (fun x hx => by rw [List.mem_singleton] at hx; subst hx; exact Nat.le_trans HBB.out.size HU2.out.lo.2.1) (Nat.le_trans HBB.out.size HU2.out.kept.size))
        have HBB2 := hid hbb2
        clear hbb2
        rintro e w5 ⟨ho, ⟨rfl, h5, hF, hrow⟩ | ⟨H, A, c, rfl, hA, hS⟩⟩
        · have HO := hid ho
          have HF5 := hid hF
          clear ho hF hrow ht1 ht2 ht3
          go_wp2_with fail
          go_ret3
          have hfx := HF5.out.fix HG.out.inside HM2.out
          refine ⟨HBB2.out _ HO.out, .inr (.inr ⟨HC.out, ⟨has, HA.out⟩, .inr (.inl ⟨by rw [HL.out]; exact HM.out, ⟨_, hfx, ?_⟩, rfl⟩)⟩)⟩
          rw [Int.toNat_natCast, hasOf_set _ (by rw [HF5.out.part.lenH]; exact hfl), if_pos rfl]
        · have HO := hid ho
          have HSS := hid hS
          have HAI := hid hA
          clear ho hS hA ht1 ht2 ht3
          go_wp2_with fail
          go_ret3
          exact ⟨HBB2.out _ HO.out, .inr (.inr ⟨HC.out, ⟨has, HA.out⟩, .inr (.inr ⟨by rw [HL.out]; exact HM.out, H, A, c, rfl, HAI.out, by rw [Int.toNat_natCast]; exact ⟨HSS.out.short, HSS.out.out⟩⟩)⟩)⟩
    · have HB2 := hid hb2
      have HSH := hid hS
      have HBB := hid hbb
      clear hb2 hS hbb
      go_wp2_with fail
      go_ret3
      exact ⟨HBB.out.trans (HB2.out.mono HBB.out.size), .inr (.inl ⟨HC.out, Board.no_as HCK.out HSH.out, rfl⟩)⟩
end Go.Proofs.Ytpmdjbjnihhjeaa
