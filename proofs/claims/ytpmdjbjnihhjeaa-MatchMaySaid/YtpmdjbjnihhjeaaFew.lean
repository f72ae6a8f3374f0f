/- The law's own tests of a board's size: wide and few. -/
import Derived.Test.YtpmdjbjnihhjeaaBoard
namespace Go.Proofs.Ytpmdjbjnihhjeaa
open Go.RowKit
set_option linter.unusedSimpArgs false

/-- A board of at most so many finds and slots, or one that is too large by a little. -/
def Board.wide (b : Board) : Prop := b.small ∧ (b.finds.length ≤ 30 ∧ b.slots.length ≤ 40 ∨ 60 < b.finds.length ∨ 200 < b.slots.length)
def Board.brief (b : Board) : Prop := b.finds.length ≤ 70 ∧ b.slots.length ≤ 210 ∧ b.fits.length ≤ 70 ∧ ∀ l ∈ b.fits, l.length ≤ 5
def Board.few (b : Board) : Prop := b.brief ∧ (b.finds.length ≤ 6 ∧ b.slots.length ≤ 12 ∨ 60 < b.finds.length ∨ 200 < b.slots.length)
/-- What such a test comes to. -/
def SizePost (P : Prop) (w : World) (e : Ending) (w' : World) : Prop := ∃ t : Bool, e = .returned (.bool t) ∧ Below w.heap.size w w' ∧ (t = true → P)
theorem Board.brief.small {b : Board} (h : b.brief) : b.small := ⟨h.1, h.2.1, h.2.2.1, fun l hl => by have := h.2.2.2 l hl; omega⟩

set_option maxRecDepth 100000 in
set_option maxHeartbeats 8000000 in
theorem wide_any (b : Board) (Af As At : Option Addr) (cf cs ct : Nat) (w : World) (hB : BoardAt w Af As At b) :
    Calls Try.prog 25 #[.agg #[.slice Af b.finds.length cf, .slice As b.slots.length cs, .slice At b.fits.length ct]] w (SizePost b.wide w) := by
  obtain ⟨W, hW, c0, c1, c2, hbW, hz⟩ := box3 w (.slice Af b.finds.length cf) (.slice As b.slots.length cs) (.slice At b.fits.length ct) 26
  have HBW := hid hbW
  have hBW := hid (hB.kept (Kept.of_below hbW))
  clear hz hbW hB
  by_cases q0 : b.finds.length ≤ 70
  case neg =>
    have q0' : 70 < b.finds.length := by omega
    go_enter Try.func25, Try.ntmps25
    go_wp2_with fail
    go_ret
    exact ⟨_, rfl, HBW.out, fun h => by first | (cases h; done) | (simp only [Bool.or_eq_true, Bool.and_eq_true, decide_eq_true_eq] at h; omega)⟩
  by_cases q1 : b.slots.length ≤ 210
  case neg =>
    have q1' : 210 < b.slots.length := by omega
    go_enter Try.func25, Try.ntmps25
    go_wp2_with fail
    go_ret
    exact ⟨_, rfl, HBW.out, fun h => by first | (cases h; done) | (simp only [Bool.or_eq_true, Bool.and_eq_true, decide_eq_true_eq] at h; omega)⟩
  by_cases q2 : b.fits.length ≤ 70
  case neg =>
    have q2' : 70 < b.fits.length := by omega
    go_enter Try.func25, Try.ntmps25
    go_wp2_with fail
    go_ret
    exact ⟨_, rfl, HBW.out, fun h => by first | (cases h; done) | (simp only [Bool.or_eq_true, Bool.and_eq_true, decide_eq_true_eq] at h; omega)⟩
  go_enter Try.func25, Try.ntmps25
  go_wp2_with fail
  clear hW
  go_loopg [3] (b.fits.length) (fun g i wr => wr = W ∧ ∃ k : Nat, k ≤ b.fits.length ∧ g = b.fits.length - k ∧ i = .int .i64 k ∧ Hid (∀ j (h : j < b.fits.length), j < k → (b.fits[j]).length ≤ 60))
  case atStart => exact ⟨rfl, 0, by omega, by omega, rfl, hid (fun j _ h => by omega)⟩
  case round =>
    obtain ⟨rfl, k, hk, hgk, rfl, hat⟩ := hrel
    by_cases hlt : k < b.fits.length
    · obtain ⟨fb, foff, rfl, hfc⟩ := hBW.out.fits (by omega)
      obtain ⟨Aj, cj, f1, _⟩ := hfc k hlt
      obtain ⟨L, hL⟩ : ∃ L, L = b.fits[k] := ⟨_, rfl⟩
      rw [← hL] at f1
      have HL := hid hL
      have hi0 : (0 : Int) ≤ k := by omega
      have hi1 : (k : Int) < b.fits.length := by omega
      clear hfc hL
      by_cases h0 : L.length ≤ 60
      · have H0 := hid h0
        go_wp2_with fail
        go_roundg (b.fits.length - (k + 1))
        case measure => omega
        case rel =>
          refine ⟨rfl, k + 1, by omega, rfl, by go_num, hid (fun j hj hjk => ?_)⟩
          rcases Nat.lt_or_ge j k with h | h
          · exact hat.out j hj h
          · obtain rfl : j = k := by omega
            rw [← HL.out]; exact H0.out
      · have h0' : 60 < L.length := by omega
        go_wp2_with fail
        go_ret
        exact ⟨_, rfl, HBW.out, fun h => by first | (cases h; done) | (simp only [Bool.or_eq_true, Bool.and_eq_true, decide_eq_true_eq] at h; omega)⟩
    · obtain rfl : k = b.fits.length := by omega
      have HSM : Hid (b.finds.length ≤ 70 ∧ b.slots.length ≤ 210 ∧ b.fits.length ≤ 70 ∧ ∀ l ∈ b.fits, l.length ≤ 60) := hid ⟨q0, q1, q2, fun l hl => by
        obtain ⟨j, hj, rfl⟩ := List.getElem_of_mem hl
        exact hat.out j hj hj⟩
      by_cases p0 : 60 < b.finds.length
      · have p0' : ¬ b.finds.length ≤ 30 := by omega
        go_wp2_with fail
        go_ret
        exact ⟨_, rfl, HBW.out, fun _ => ⟨HSM.out, by omega⟩⟩
      by_cases p1 : 200 < b.slots.length
      · have p1' : ¬ b.slots.length ≤ 40 := by omega
        by_cases p2 : b.finds.length ≤ 30
        · go_wp2_with fail
          go_ret
          exact ⟨_, rfl, HBW.out, fun _ => ⟨HSM.out, by omega⟩⟩
        · go_wp2_with fail
          go_ret
          exact ⟨_, rfl, HBW.out, fun _ => ⟨HSM.out, by omega⟩⟩
      by_cases p2 : b.finds.length ≤ 30
      · by_cases p3 : b.slots.length ≤ 40
        · go_wp2_with fail
          go_ret
          exact ⟨_, rfl, HBW.out, fun _ => ⟨HSM.out, by omega⟩⟩
        · go_wp2_with fail
          go_ret
          exact ⟨_, rfl, HBW.out, fun h => by first | (cases h; done) | (simp only [Bool.or_eq_true, Bool.and_eq_true, decide_eq_true_eq] at h; omega)⟩
      · go_wp2_with fail
        go_ret
        exact ⟨_, rfl, HBW.out, fun h => by first | (cases h; done) | (simp only [Bool.or_eq_true, Bool.and_eq_true, decide_eq_true_eq] at h; omega)⟩

set_option maxRecDepth 100000 in
set_option maxHeartbeats 8000000 in
theorem few_any (b : Board) (Af As At : Option Addr) (cf cs ct : Nat) (w : World) (hB : BoardAt w Af As At b) :
    Calls Try.prog 13 #[.agg #[.slice Af b.finds.length cf, .slice As b.slots.length cs, .slice At b.fits.length ct]] w (SizePost b.few w) := by
  obtain ⟨W, hW, c0, c1, c2, hbW, hz⟩ := box3 w (.slice Af b.finds.length cf) (.slice As b.slots.length cs) (.slice At b.fits.length ct) 26
  have HBW := hid hbW
  have hBW := hid (hB.kept (Kept.of_below hbW))
  clear hz hbW hB
  by_cases q0 : b.finds.length ≤ 70
  case neg =>
    have q0' : 70 < b.finds.length := by omega
    go_enter Try.func13, Try.ntmps13
    go_wp2_with fail
    go_ret
    exact ⟨_, rfl, HBW.out, fun h => by first | (cases h; done) | (simp only [Bool.or_eq_true, Bool.and_eq_true, decide_eq_true_eq] at h; omega)⟩
  by_cases q1 : b.slots.length ≤ 210
  case neg =>
    have q1' : 210 < b.slots.length := by omega
    go_enter Try.func13, Try.ntmps13
    go_wp2_with fail
    go_ret
    exact ⟨_, rfl, HBW.out, fun h => by first | (cases h; done) | (simp only [Bool.or_eq_true, Bool.and_eq_true, decide_eq_true_eq] at h; omega)⟩
  by_cases q2 : b.fits.length ≤ 70
  case neg =>
    have q2' : 70 < b.fits.length := by omega
    go_enter Try.func13, Try.ntmps13
    go_wp2_with fail
    go_ret
    exact ⟨_, rfl, HBW.out, fun h => by first | (cases h; done) | (simp only [Bool.or_eq_true, Bool.and_eq_true, decide_eq_true_eq] at h; omega)⟩
  go_enter Try.func13, Try.ntmps13
  go_wp2_with fail
  clear hW
  go_loopg [3] (b.fits.length) (fun g i wr => wr = W ∧ ∃ k : Nat, k ≤ b.fits.length ∧ g = b.fits.length - k ∧ i = .int .i64 k ∧ Hid (∀ j (h : j < b.fits.length), j < k → (b.fits[j]).length ≤ 5))
  case atStart => exact ⟨rfl, 0, by omega, by omega, rfl, hid (fun j _ h => by omega)⟩
  case round =>
    obtain ⟨rfl, k, hk, hgk, rfl, hat⟩ := hrel
    by_cases hlt : k < b.fits.length
    · obtain ⟨fb, foff, rfl, hfc⟩ := hBW.out.fits (by omega)
      obtain ⟨Aj, cj, f1, _⟩ := hfc k hlt
      obtain ⟨L, hL⟩ : ∃ L, L = b.fits[k] := ⟨_, rfl⟩
      rw [← hL] at f1
      have HL := hid hL
      have hi0 : (0 : Int) ≤ k := by omega
      have hi1 : (k : Int) < b.fits.length := by omega
      clear hfc hL
      by_cases h0 : L.length ≤ 5
      · have H0 := hid h0
        go_wp2_with fail
        go_roundg (b.fits.length - (k + 1))
        case measure => omega
        case rel =>
          refine ⟨rfl, k + 1, by omega, rfl, by go_num, hid (fun j hj hjk => ?_)⟩
          rcases Nat.lt_or_ge j k with h | h
          · exact hat.out j hj h
          · obtain rfl : j = k := by omega
            rw [← HL.out]; exact H0.out
      · have h0' : 5 < L.length := by omega
        go_wp2_with fail
        go_ret
        exact ⟨_, rfl, HBW.out, fun h => by first | (cases h; done) | (simp only [Bool.or_eq_true, Bool.and_eq_true, decide_eq_true_eq] at h; omega)⟩
    · obtain rfl : k = b.fits.length := by omega
      have HSM : Hid (b.finds.length ≤ 70 ∧ b.slots.length ≤ 210 ∧ b.fits.length ≤ 70 ∧ ∀ l ∈ b.fits, l.length ≤ 5) := hid ⟨q0, q1, q2, fun l hl => by
        obtain ⟨j, hj, rfl⟩ := List.getElem_of_mem hl
        exact hat.out j hj hj⟩
      by_cases p0 : 60 < b.finds.length
      · have p0' : ¬ b.finds.length ≤ 6 := by omega
        go_wp2_with fail
        go_ret
        exact ⟨_, rfl, HBW.out, fun _ => ⟨HSM.out, by omega⟩⟩
      by_cases p1 : 200 < b.slots.length
      · have p1' : ¬ b.slots.length ≤ 12 := by omega
        by_cases p2 : b.finds.length ≤ 6
        · go_wp2_with fail
          go_ret
          exact ⟨_, rfl, HBW.out, fun _ => ⟨HSM.out, by omega⟩⟩
        · go_wp2_with fail
          go_ret
          exact ⟨_, rfl, HBW.out, fun _ => ⟨HSM.out, by omega⟩⟩
      by_cases p2 : b.finds.length ≤ 6
      · by_cases p3 : b.slots.length ≤ 12
        · go_wp2_with fail
          go_ret
          exact ⟨_, rfl, HBW.out, fun _ => ⟨HSM.out, by omega⟩⟩
        · go_wp2_with fail
          go_ret
          exact ⟨_, rfl, HBW.out, fun h => by first | (cases h; done) | (simp only [Bool.or_eq_true, Bool.and_eq_true, decide_eq_true_eq] at h; omega)⟩
      · go_wp2_with fail
        go_ret
        exact ⟨_, rfl, HBW.out, fun h => by first | (cases h; done) | (simp only [Bool.or_eq_true, Bool.and_eq_true, decide_eq_true_eq] at h; omega)⟩
end Go.Proofs.Ytpmdjbjnihhjeaa
