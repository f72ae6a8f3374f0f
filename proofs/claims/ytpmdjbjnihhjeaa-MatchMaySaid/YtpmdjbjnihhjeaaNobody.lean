/- Nobody, twice; the reference's Meets; wide. -/
import Derived.Test.YtpmdjbjnihhjeaaRefMeets
namespace Go.Proofs.Ytpmdjbjnihhjeaa
open Go.RowKit

theorem refCheck_t (Af As At : Option Addr) (cf cs ct : Nat) (b : Board) (w : World) (hs : b.small) (hB : BoardAt w Af As At b) {k : Int} (hk : b.check = k) :
    Calls Try.prog 19 #[.agg #[.slice Af b.finds.length cf, .slice As b.slots.length cs, .slice At b.fits.length ct]] w fun e w' => e = .returned (.int .i64 k) ∧ Below w.heap.size w w' := by
  subst hk
  exact refCheck_any Af As At cf cs ct b w hs hB

set_option maxRecDepth 100000 in
set_option maxHeartbeats 8000000 in
/-- The reference's Meets comes to what Meets does. -/
theorem refMeets_any (b : Board) (Af As At Al : Option Addr) (cf cs ct cl : Nat) (l : List Int) (w : World) (hs : b.small) (hl80 : l.length ≤ 80) (hB : BoardAt w Af As At b) (hL : IntsAt w Al l) :
    Calls Try.prog 34 #[.agg #[.slice Af b.finds.length cf, .slice As b.slots.length cs, .slice At b.fits.length ct], .slice Al l.length cl] w (MeetsPost b l w) := by
  have HS := hid hs
  obtain ⟨W, hW, c0, c1, c2, hbW, hz⟩ := box3 w (.slice Af b.finds.length cf) (.slice As b.slots.length cs) (.slice At b.fits.length ct) 26
  have HBW := hid hbW
  have hBW := hid (hB.kept (Kept.of_below hbW))
  have hLW := hid (hL.kept (Kept.of_below hbW))
  clear hz hbW hB hs hL
  by_cases hc : b.check = 0
  case neg =>
    have d1 : (b.check == 0) = false := by simpa using hc
    have HC := hid hc
    clear hc
    go_enter Try.func34, Try.ntmps34
    go_wp2_with fail
    refine (refCheck_any Af As At cf cs ct b W HS.out hBW.out).mono ?_
    rintro e w1 ⟨rfl, hb1⟩
    have HB1 := hid hb1
    clear hb1
    go_wp2_with fail
    go_ret2
    exact ⟨HBW.out.trans (HB1.out.mono HBW.out.size), .inl ⟨HC.out, rfl⟩⟩
  case pos =>
    have HC := hid hc
    clear hc
    go_enter Try.func34, Try.ntmps34
    go_wp2_with fail
    refine (refCheck_t Af As At cf cs ct b W HS.out hBW.out HC.out).mono ?_
    rintro e w1 ⟨rfl, hb1⟩
    have k0 := (Kept.of_below hb1) _ _ c0
    have k1 := (Kept.of_below hb1) _ _ c1
    have k2 := (Kept.of_below hb1) _ _ c2
    have HB1 := hid hb1
    clear hb1 hW
    go_wp2_with fail
    refine (refMeets_in b Af As At Al cf cs ct cl l w1 HS.out HC.out hl80 (hBW.out.kept (Kept.of_below HB1.out)) (hLW.out.kept (Kept.of_below HB1.out)) rfl).mono ?_
    rintro e w2 ⟨rfl, hb2⟩
    have HBB := hid ((HBW.out.trans (HB1.out.mono HBW.out.size)).trans (hb2.mono (Nat.le_trans HBW.out.size HB1.out.size)))
    clear hb2
    go_wp2_with fail
    go_ret2
    exact ⟨HBB.out, .inr ⟨HC.out, rfl⟩⟩

/-- The finds that fit no slot. -/
def nobodyTo (b : Board) (k : Nat) : List Nat := (List.range k).filter fun i => decide (fitOf b.fits i = [])
def Board.nobody (b : Board) : List Int := nats (nobodyTo b b.fits.length)
theorem nobodyTo_succ (b : Board) (k : Nat) : nobodyTo b (k + 1) = nobodyTo b k ++ if fitOf b.fits k = [] then [k] else [] := by
  unfold nobodyTo
  rw [List.range_succ, List.filter_append]
  by_cases h : fitOf b.fits k = [] <;> simp [h]
theorem nobodyTo_len (b : Board) (k : Nat) : (nobodyTo b k).length ≤ k := by
  unfold nobodyTo
  have := List.length_filter_le (fun i => decide (fitOf b.fits i = [])) (List.range k)
  simpa using this

/-- What Nobody comes to. -/
def NobodyPost (b : Board) (w : World) (e : Ending) (w' : World) : Prop :=
  Below w.heap.size w w' ∧ ((b.check ≠ 0 ∧ e = .returned (.tuple #[.slice none 0 0, .int .i64 b.check])) ∨
    (b.check = 0 ∧ ∃ A c, e = .returned (.tuple #[.slice A b.nobody.length c, .int .i64 0]) ∧ IntsAt w' A b.nobody))

theorem app_one {w : World} {base : Nat} {v : Value} {xs : List Int} (x : Int) (hown : w.ownsRow base 3 1 v xs.length (ints xs)) (hl : xs.length ≤ 1000) (hbase : base ≤ w.heap.size) :
    ∃ v' w', (Builtin.append_ #[22, 22] 22 #[v, .slice (some ⟨w.heap.size, 0, none⟩) 1 1]).run Try.prog (w.alloc (.cells #[.int .i64 x] 3)) = .ok v' w' ∧ w'.ownsRow base 3 1 v' (xs ++ [x]).length (ints (xs ++ [x])) ∧ (Below base w w') := by
  obtain ⟨v', w', hr2, ho', hg'⟩ := app_ints (w := w.alloc (.cells #[.int .i64 x] 3)) (c := 1) (A := some ⟨w.heap.size, 0, none⟩) (ys := [x]) (hown.alloc _) (fun _ => ⟨w.heap.size, 0, rfl, fun j hj => by
    have : j = 0 := by simpa using hj
    subst this; simp⟩) (by simp; omega) (by simp; omega)
  exact ⟨v', w', hr2, ho', ((Below.refl _ _).alloc hbase _).grown hg' (by simp; omega) (fun g e => (hown.lt g e).1)⟩

set_option maxRecDepth 100000 in
set_option maxHeartbeats 8000000 in
theorem nobody_any (b : Board) (Af As At : Option Addr) (cf cs ct : Nat) (w : World) (hs : b.small) (hB : BoardAt w Af As At b) :
    Calls Try.prog 37 #[.agg #[.slice Af b.finds.length cf, .slice As b.slots.length cs, .slice At b.fits.length ct]] w (NobodyPost b w) := by
  have hn70 := hs.2.2.1
  have hl4 := hs.2.2.2
  have HS := hid hs
  obtain ⟨W, hW, c0, c1, c2, hbW, hz⟩ := box3 w (.slice Af b.finds.length cf) (.slice As b.slots.length cs) (.slice At b.fits.length ct) 26
  have HBW := hid hbW
  have hBW := hid (hB.kept (Kept.of_below hbW))
  have HL4 := hid hl4
  clear hz hbW hB hs hl4
  by_cases hc : b.check = 0
  case neg =>
    have d1 : (b.check != 0) = true := by simpa using hc
    have HC := hid hc
    clear hc
    go_enter Try.func37, Try.ntmps37
    go_wp2_with fail
    refine (check_any Af As At cf cs ct b W HS.out hBW.out).mono ?_
    rintro e w1 ⟨rfl, hb1⟩
    have HB1 := hid hb1
    clear hb1
    go_wp2_with fail
    go_ret2
    exact ⟨HBW.out.trans (HB1.out.mono HBW.out.size), .inl ⟨HC.out, rfl⟩⟩
  case pos =>
    have HC := hid hc
    clear hc
    go_enter Try.func37, Try.ntmps37
    go_wp2_with fail
    refine (check_t Af As At cf cs ct b W HS.out hBW.out HC.out).mono ?_
    rintro e w1 ⟨rfl, hb1⟩
    have k2 := (Kept.of_below hb1) _ _ c2
    have HB1 := hid hb1
    have HBB := hid (HBW.out.trans (hb1.mono HBW.out.size))
    clear hb1 hW c0 c1 c2
    go_wp2_with fail
    clear k2
    go_loopg [5, 16] (b.fits.length) (fun g v i wr => ∃ k : Nat, k ≤ b.fits.length ∧ g = b.fits.length - k ∧ i = .int .i64 k ∧ Hid (wr.ownsRow w1.heap.size 3 1 v (nats (nobodyTo b k)).length (ints (nats (nobodyTo b k)))) ∧ Hid (Below w1.heap.size w1 wr))
    case atStart => exact ⟨0, by omega, by omega, rfl, hid (World.ownsRow_nil _ _ _ _), hid (Below.refl _ _)⟩
    case round =>
      obtain ⟨k, hk, hgk, rfl, hown, hbw⟩ := hrel
      by_cases hlt : k < b.fits.length
      · obtain ⟨fb, foff, rfl, hfc⟩ := ((hBW.out.kept (Kept.of_below HB1.out)).kept (Kept.of_below hbw.out)).fits (by omega)
        obtain ⟨Aj, cj, f1, _⟩ := hfc k hlt
        have hlenL := HL4.out _ (List.getElem_mem hlt)
        obtain ⟨L, hL⟩ : ∃ L, L = b.fits[k] := ⟨_, rfl⟩
        rw [← hL] at f1 hlenL
        have HL : Hid (fitOf b.fits k = L) := hid ((fitOf_lt hlt).trans hL.symm)
        have hnl := nobodyTo_len b k
        obtain ⟨v', w', hr2, ho', hb'⟩ := app_one (k : Int) hown.out (by rw [nats_length]; omega) hbw.out.size
        have HSU := hid (nobodyTo_succ b k)
        have HR2 := hid hr2
        have HO := hid ho'
        have HB2 := hid (hbw.out.trans hb')
        clear hfc hL hr2 ho' hb'
        by_cases h0 : L.length = 0
        · have d2 : ((L.length : Int) == 0) = true := beq_iff_eq.2 (by omega)
          have HE : Hid (fitOf b.fits k = []) := hid (by rw [HL.out]; exact List.eq_nil_of_length_eq_zero h0)
          clear h0
          go_wp2_with (at_builtin; refine wpList_app rfl rfl rfl rfl rfl HR2.out ?_)
          go_roundg (b.fits.length - (k + 1))
          case measure => omega
          case rel =>
            refine ⟨k + 1, by omega, rfl, by go_num, hid ?_, HB2⟩
            rw [HSU.out, if_pos HE.out]
            have := HO.out
            simpa [nats] using this
        · have d2 : ((L.length : Int) == 0) = false := beq_eq_false_iff_ne.2 (by omega)
          have HNE : Hid (fitOf b.fits k ≠ []) := hid (by rw [HL.out]; intro h; rw [h] at h0; simp at h0)
          clear h0 HR2 HO HB2
          go_wp2_with fail
          go_roundg (b.fits.length - (k + 1))
          case measure => omega
          case rel => exact ⟨k + 1, by omega, rfl, by go_num, by rw [HSU.out, if_neg HNE.out, List.append_nil]; exact hown, hbw⟩
      · obtain rfl : k = b.fits.length := by omega
        obtain ⟨A, c, rfl, hA⟩ := ownsRow.ints hown.out
        have HA := hid hA
        clear hA
        go_wp2_with fail
        go_ret2
        exact ⟨HBB.out.trans (hbw.out.mono HBB.out.size), .inr ⟨HC.out, A, c, rfl, HA.out⟩⟩

set_option maxRecDepth 100000 in
set_option maxHeartbeats 8000000 in
theorem refNobody_any (b : Board) (Af As At : Option Addr) (cf cs ct : Nat) (w : World) (hs : b.small) (hB : BoardAt w Af As At b) :
    Calls Try.prog 48 #[.agg #[.slice Af b.finds.length cf, .slice As b.slots.length cs, .slice At b.fits.length ct]] w (NobodyPost b w) := by
  have hn70 := hs.2.2.1
  have hl4 := hs.2.2.2
  have HS := hid hs
  obtain ⟨W, hW, c0, c1, c2, hbW, hz⟩ := box3 w (.slice Af b.finds.length cf) (.slice As b.slots.length cs) (.slice At b.fits.length ct) 26
  have HBW := hid hbW
  have hBW := hid (hB.kept (Kept.of_below hbW))
  have HL4 := hid hl4
  clear hz hbW hB hs hl4
  by_cases hc : b.check = 0
  case neg =>
    have d1 : (b.check != 0) = true := by simpa using hc
    have HC := hid hc
    clear hc
    go_enter Try.func48, Try.ntmps48
    go_wp2_with fail
    refine (refCheck_any Af As At cf cs ct b W HS.out hBW.out).mono ?_
    rintro e w1 ⟨rfl, hb1⟩
    have HB1 := hid hb1
    clear hb1
    go_wp2_with fail
    go_ret2
    exact ⟨HBW.out.trans (HB1.out.mono HBW.out.size), .inl ⟨HC.out, rfl⟩⟩
  case pos =>
    have HC := hid hc
    clear hc
    go_enter Try.func48, Try.ntmps48
    go_wp2_with fail
    refine (refCheck_t Af As At cf cs ct b W HS.out hBW.out HC.out).mono ?_
    rintro e w1 ⟨rfl, hb1⟩
    have k2 := (Kept.of_below hb1) _ _ c2
    have K2 := hid k2
    have HB1 := hid hb1
    have HBB := hid (HBW.out.trans (hb1.mono HBW.out.size))
    clear hb1 hW c0 c1 c2
    go_wp2_with fail
    clear k2
    go_loopg [5, 6] (b.fits.length) (fun g v i wr => ∃ k : Nat, k ≤ b.fits.length ∧ g = b.fits.length - k ∧ i = .int .i64 k ∧ Hid (wr.ownsRow w1.heap.size 3 1 v (nats (nobodyTo b k)).length (ints (nats (nobodyTo b k)))) ∧ Hid (Below w1.heap.size w1 wr))
    case atStart => exact ⟨0, by omega, by omega, rfl, hid (World.ownsRow_nil _ _ _ _), hid (Below.refl _ _)⟩
    case round =>
      obtain ⟨k, hk, hgk, rfl, hown, hbw⟩ := hrel
      have q2 := (Kept.of_below hbw.out) _ _ K2.out
      by_cases hlt : k < b.fits.length
      · obtain ⟨fb, foff, rfl, hfc⟩ := ((hBW.out.kept (Kept.of_below HB1.out)).kept (Kept.of_below hbw.out)).fits (by omega)
        obtain ⟨Aj, cj, f1, _⟩ := hfc k hlt
        have hlenL := HL4.out _ (List.getElem_mem hlt)
        obtain ⟨L, hL⟩ : ∃ L, L = b.fits[k] := ⟨_, rfl⟩
        rw [← hL] at f1 hlenL
        have HL : Hid (fitOf b.fits k = L) := hid ((fitOf_lt hlt).trans hL.symm)
        have hnl := nobodyTo_len b k
        obtain ⟨v', w', hr2, ho', hb'⟩ := app_one (k : Int) hown.out (by rw [nats_length]; omega) hbw.out.size
        have HSU := hid (nobodyTo_succ b k)
        have HR2 := hid hr2
        have HO := hid ho'
        have HB2 := hid (hbw.out.trans hb')
        have hi0 : (0 : Int) ≤ k := by omega
        have hi1 : (k : Int) < b.fits.length := by omega
        clear hfc hL hr2 ho' hb'
        by_cases h0 : L.length = 0
        · have d2 : ((L.length : Int) == 0) = true := beq_iff_eq.2 (by omega)
          have HE : Hid (fitOf b.fits k = []) := hid (by rw [HL.out]; exact List.eq_nil_of_length_eq_zero h0)
          clear h0
          go_wp2_with (at_builtin; refine wpList_app rfl rfl rfl rfl rfl HR2.out ?_)
          go_roundg (b.fits.length - (k + 1))
          case measure => omega
          case rel =>
            refine ⟨k + 1, by omega, rfl, by go_num, hid ?_, HB2⟩
            rw [HSU.out, if_pos HE.out]
            have := HO.out
            simpa [nats] using this
        · have d2 : ((L.length : Int) == 0) = false := beq_eq_false_iff_ne.2 (by omega)
          have HNE : Hid (fitOf b.fits k ≠ []) := hid (by rw [HL.out]; intro h; rw [h] at h0; simp at h0)
          clear h0 HR2 HO HB2
          go_wp2_with fail
          go_roundg (b.fits.length - (k + 1))
          case measure => omega
          case rel => exact ⟨k + 1, by omega, rfl, by go_num, by rw [HSU.out, if_neg HNE.out, List.append_nil]; exact hown, hbw⟩
      · obtain rfl : k = b.fits.length := by omega
        obtain ⟨A, c, rfl, hA⟩ := ownsRow.ints hown.out
        have HA := hid hA
        clear hA
        go_wp2_with fail
        go_ret2
        exact ⟨HBB.out.trans (hbw.out.mono HBB.out.size), .inr ⟨HC.out, A, c, rfl, HA.out⟩⟩
end Go.Proofs.Ytpmdjbjnihhjeaa
