/- The reference's CheckBoard returns Board.check. -/
import Derived.Test.YtpmdjbjnihhjeaaBoard
namespace Go.Proofs.Ytpmdjbjnihhjeaa
open Go.RowKit

set_option maxRecDepth 100000 in
set_option maxHeartbeats 4000000 in
theorem refCheck_any (Af As At : Option Addr) (cf cs ct : Nat) (b : Board) (w : World) (hs : b.small) (hB : BoardAt w Af As At b) :
    Calls Try.prog 19 #[.agg #[.slice Af b.finds.length cf, .slice As b.slots.length cs, .slice At b.fits.length ct]] w fun e w' => e = .returned (.int .i64 b.check) ∧ Below w.heap.size w w' := by
  obtain ⟨h1, h2, h3, h4⟩ := hs
  have HB := hid hB
  have H4 := hid h4
  clear hB h4
  obtain ⟨W, hW, c0, c1, c2, hbW, hz⟩ := box3 w (.slice Af b.finds.length cf) (.slice As b.slots.length cs) (.slice At b.fits.length ct) 26
  by_cases hf : 60 < b.finds.length
  · go_enter Try.func19, Try.ntmps19
    go_wp2
    go_ret
    exact ⟨ret_int (Board.check_two (.inl hf)).symm, hbW⟩
  by_cases hsl : 200 < b.slots.length
  · go_enter Try.func19, Try.ntmps19
    go_wp2
    go_ret
    exact ⟨ret_int (Board.check_two (.inr hsl)).symm, hbW⟩
  have bad : ¬ b.Good → (1 : Int) = b.check := fun h => (Board.check_one hf hsl h).symm
  have good : b.Good → (0 : Int) = b.check := fun h => (Board.check_ok hf hsl h).symm
  have BAD := hid bad
  have GOOD := hid good
  have HK := hid (Kept.of_below hbW)
  have HZ := hid hbW
  have HQ : Hid (W.heap.size = w.heap.size + 1) := hid hz
  clear bad good hbW hz
  go_enter Try.func19, Try.ntmps19
  go_wp2
  clear hW
  go_loopw [3] (fun i wr => Below W.heap.size W wr ∧ ∃ k : Nat, k ≤ b.finds.length ∧ i = .int .i64 k ∧ Hid (RiseTo b.finds 10 10000007 k)) (fun i _ => b.finds.length - (intOf i).toNat)
  case atStart => exact ⟨Below.refl _ _, 0, by omega, rfl, hid (by intro j _ h; omega)⟩
  case round =>
    obtain ⟨hb, k, hk, rfl, hn⟩ := hrel
    have kp := Kept.of_below hb
    have e0 := kp _ _ c0
    have e1 := kp _ _ c1
    have e2 := kp _ _ c2
    have HK2 := hid (HK.out.trans kp)
    have HB0 : Below w.heap.size w wr := HZ.out.trans (hb.mono (by have := HQ.out; omega))
    clear kp
    by_cases hlt : k < b.finds.length
    · obtain ⟨c, off, rfl, hc⟩ := (HB.out.kept HK2.out).finds (by omega)
      have hcell := hc k hlt
      have hcell' := hc (k - 1) (by omega)
      clear hc
      have hi0 : (0 : Int) ≤ ↑k := by omega
      have hi1 : (k : Int) < ↑b.finds.length := by omega
      by_cases h1 : b.finds[k] < 10
      · have d1 : decide (b.finds[k] < 10) = true := by simpa using h1
        go_wp2
        go_quiet (fail)
        go_wp2
        go_ret
        exact ⟨ret_int (BAD.out fun h => by have := h.finds k hlt hlt; omega), Below.drewN' HB0 _⟩
      have d1 : decide (b.finds[k] < 10) = false := by simpa using h1
      by_cases h2 : 10000007 < b.finds[k]
      · have d2 : decide (10000007 < b.finds[k]) = true := by simpa using h2
        go_wp2
        go_quiet (fail)
        go_wp2
        go_ret
        exact ⟨ret_int (BAD.out fun h => by have := h.finds k hlt hlt; omega), Below.drewN' HB0 _⟩
      have d2 : decide (10000007 < b.finds[k]) = false := by simpa using h2
      by_cases hk0 : 0 < k
      · have d3 : decide ((0 : Int) < ↑k) = true := by simp; omega
        by_cases hgt : b.finds[k] ≤ b.finds[k - 1]
        · have d4 : decide (b.finds[k] ≤ b.finds[k - 1]) = true := by simpa using hgt
          go_wp2
          go_quiet (fail)
          go_wp2
          go_ret
          exact ⟨ret_int (BAD.out fun h => by have := (h.finds k hlt hlt).2.2 hk0; omega), Below.drewN' HB0 _⟩
        · have d4 : decide (b.finds[k] ≤ b.finds[k - 1]) = false := by simpa using hgt
          go_wp2
          go_quiet (fail)
          go_wp2
          go_roundw
          case rel => exact ⟨Below.drewN' hb _, k + 1, by omega, by go_num, hid (hn.out.succ hlt (by omega) (by omega) (by omega))⟩
          case measure => simp [intOf]; omega
      · have d3 : decide ((0 : Int) < ↑k) = false := by simp; omega
        go_wp2
        go_quiet (fail)
        go_wp2
        go_roundw
        case rel => exact ⟨Below.drewN' hb _, k + 1, by omega, by go_num, hid (hn.out.succ hlt (by omega) (by omega) (by omega))⟩
        case measure => simp [intOf]; omega
    · have HF : Hid (Rise b.finds 10 10000007) := hid (fun j hj hjk => hn.out j hj (by omega))
      clear hn
      go_wp2
      clear e0 e1 e2 HK2 HB0 hk hlt
      have hb1 := hb
      clear hb
      go_loopw [4, 5] (fun i _ wr => Below W.heap.size W wr ∧ ∃ k : Nat, k ≤ b.slots.length ∧ i = .int .i64 k ∧ Hid (SlotsTo b.slots k)) (fun i _ _ => b.slots.length - (intOf i).toNat)
      case atStart => exact ⟨hb1, 0, by omega, rfl, hid (by intro j _ h; omega)⟩
      case round =>
        clear hb1
        obtain ⟨hb, k, hk, rfl, hn⟩ := hrel
        have kp := Kept.of_below hb
        have e0 := kp _ _ c0
        have e1 := kp _ _ c1
        have e2 := kp _ _ c2
        have HK2 := hid (HK.out.trans kp)
        have HB0 : Below w.heap.size w wr := HZ.out.trans (hb.mono (by have := HQ.out; omega))
        clear kp
        by_cases hlt : k < b.slots.length
        · obtain ⟨c, off, rfl, hc⟩ := (HB.out.kept HK2.out).slots (by omega)
          obtain ⟨f0, f1, f2⟩ := hc k hlt
          obtain ⟨g0, g1, g2⟩ := hc (k - 1) (by omega)
          clear hc
          have hi0 : (0 : Int) ≤ ↑k := by omega
          have hi1 : (k : Int) < ↑b.slots.length := by omega
          obtain ⟨W2, hW2, i0, i1, i2, hbW2, hz2⟩ := box3 wr (.int .i64 b.slots[k].loss) (.int .i64 b.slots[k].pack) (.int .i64 b.slots[k].pieces) 50
          have HB1 : Below w.heap.size w W2 := HB0.trans (hbW2.mono HB0.size)
          have HB2 : Below W.heap.size W W2 := hb.trans (hbW2.mono hb.size)
          have kp2 := Kept.of_below hbW2
          have j1 := kp2 _ _ e1
          have q0 := kp2 _ _ f0
          have q1 := kp2 _ _ f1
          have q2 := kp2 _ _ f2
          have r0 := kp2 _ _ g0
          have r1 := kp2 _ _ g1
          clear kp2 g0 g1 g2 hbW2
          go_wp2
          any_goals
            go_ret
            exact ⟨ret_int (BAD.out fun h => by have := (h.slots k hlt hlt).1; unfold Slot.ok at this; omega), HB1⟩
          have hok : Hid (b.slots[k].ok) := hid ⟨by assumption, by assumption, by assumption, by assumption, by assumption, by omega⟩
          clear hW2 e0 e1 e2 f0 f1 f2
          by_cases hk0 : 0 < k
          · have d3 : decide ((0 : Int) < ↑k) = true := by simp; omega
            by_cases t1 : b.slots[k].loss < b.slots[k - 1].loss
            · have d4 : decide (b.slots[k].loss < b.slots[k - 1].loss) = true := by simpa using t1
              go_quiet (fail)
              go_wp2
              go_ret
              exact ⟨ret_int (BAD.out fun h => by have := (h.slots k hlt hlt).2 hk0; unfold Slot.lt at this; omega), Below.drewN' HB1 _⟩
            have d4 : decide (b.slots[k].loss < b.slots[k - 1].loss) = false := by simpa using t1
            by_cases t2 : b.slots[k].loss = b.slots[k - 1].loss
            · have T2 := hid t2
              have d5 : (b.slots[k].loss == b.slots[k - 1].loss) = true := by simpa using t2
              clear t2
              by_cases t3 : b.slots[k].pack ≤ b.slots[k - 1].pack
              · have d6 : decide (b.slots[k].pack ≤ b.slots[k - 1].pack) = true := by simpa using t3
                go_quiet (fail)
                go_wp2
                go_ret
                exact ⟨ret_int (BAD.out fun h => by have := (h.slots k hlt hlt).2 hk0; have := T2.out; unfold Slot.lt at *; omega), Below.drewN' HB1 _⟩
              · have d6 : decide (b.slots[k].pack ≤ b.slots[k - 1].pack) = false := by simpa using t3
                go_quiet (fail)
                go_wp2
                go_roundw
                case rel => exact ⟨Below.drewN' HB2 _, k + 1, by omega, by go_num, hid (hn.out.succ hlt hok.out (fun _ => by have := T2.out; unfold Slot.lt; omega))⟩
                case measure => simp [intOf]; omega
            · have T2 := hid t2
              have d5 : (b.slots[k].loss == b.slots[k - 1].loss) = false := by simpa using t2
              clear t2
              go_quiet (fail)
              go_wp2
              go_roundw
              case rel => exact ⟨Below.drewN' HB2 _, k + 1, by omega, by go_num, hid (hn.out.succ hlt hok.out (fun _ => by have := T2.out; unfold Slot.lt; omega))⟩
              case measure => simp [intOf]; omega
          · have d3 : decide ((0 : Int) < ↑k) = false := by simp; omega
            go_quiet (fail)
            go_wp2
            go_roundw
            case rel => exact ⟨Below.drewN' HB2 _, k + 1, by omega, by go_num, hid (hn.out.succ hlt hok.out (fun h => by omega))⟩
            case measure => simp [intOf]; omega
        · have HS : Hid (SlotsOk b.slots) := hid (fun j hj hjk => hn.out j hj (by omega))
          clear hn
          by_cases hl : b.fits.length = b.finds.length
          case neg =>
            have d0 : ((b.fits.length : Int) == b.finds.length) = false := by simp; omega
            go_wp2
            go_ret
            exact ⟨ret_int (BAD.out fun h => hl h.len), HB0⟩
          have d0 : ((b.fits.length : Int) == b.finds.length) = true := by simp; omega
          have HL := hid hl
          clear hl
          go_wp2
          clear e0 e1 e2 HK2 HB0 hk hlt
          have hb1 := hb
          clear hb
          go_loopw [6] (fun i wr => Below W.heap.size W wr ∧ ∃ k : Nat, k ≤ b.fits.length ∧ i = .int .i64 k ∧ Hid (∀ l ∈ b.fits.take k, Rise l 0 (b.slots.length - 1))) (fun i _ => b.fits.length - (intOf i).toNat)
          case atStart => exact ⟨hb1, 0, by omega, rfl, hid (by simp)⟩
          case round =>
            clear hb1
            obtain ⟨hb, k, hk, rfl, hn⟩ := hrel
            have kp := Kept.of_below hb
            have e1 := kp _ _ c1
            have e2 := kp _ _ c2
            have HK2 := hid (HK.out.trans kp)
            have HB0 : Below w.heap.size w wr := HZ.out.trans (hb.mono (by have := HQ.out; omega))
            clear kp
            by_cases hlt : k < b.fits.length
            · obtain ⟨c, off, rfl, hc⟩ := (HB.out.kept HK2.out).fits (by omega)
              obtain ⟨Aj, cj, hcell, hi⟩ := hc k hlt
              clear hc
              have HI := hid hi
              have h60 : b.fits[k].length ≤ 60 := H4.out _ (List.getElem_mem hlt)
              clear hi
              have hi0 : (0 : Int) ≤ ↑k := by omega
              have hi1 : (k : Int) < ↑b.fits.length := by omega
              rcases ht : decide (Rise b.fits[k] 0 ((b.slots.length : Int) - 1)) with _ | _
              · have HT := hid ht
                clear ht
                go_wp2
                go_quiet ((go_at_call 62; refine Calls.quietly (asc_t _ _ _ _ _ (by omega) HI.out.dn HT.out)))
                go_wp2
                go_ret
                exact ⟨ret_int (BAD.out fun h => absurd (h.fits _ (List.getElem_mem hlt)) (of_decide_eq_false HT.out)), Below.drewN' HB0 _⟩
              · have HT := hid ht
                clear ht
                go_wp2
                go_quiet ((go_at_call 62; refine Calls.quietly (asc_t _ _ _ _ _ (by omega) HI.out.dn HT.out)))
                go_wp2
                go_roundw
                case rel => exact ⟨Below.drewN' hb _, k + 1, by omega, by go_num, hid (by rw [List.take_succ_eq_append_getElem hlt]; intro x hx; simp only [List.mem_append, List.mem_singleton] at hx; rcases hx with hx | rfl; exact hn.out x hx; exact of_decide_eq_true HT.out)⟩
                case measure => simp [intOf]; omega
            · go_wp2
              go_ret
              exact ⟨ret_int (GOOD.out ⟨HF.out, HS.out, HL.out, by have := hn.out; rwa [List.take_of_length_le (by omega)] at this⟩), HB0⟩
end Go.Proofs.Ytpmdjbjnihhjeaa
