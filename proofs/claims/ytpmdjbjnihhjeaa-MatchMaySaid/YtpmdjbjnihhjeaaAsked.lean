/- What is asked first; Through and May. -/
import Derived.Test.YtpmdjbjnihhjeaaChances
namespace Go.Proofs.Ytpmdjbjnihhjeaa
open Go.RowKit

theorem Board.check_good {b : Board} (h : b.check = 0) : b.Good := by
  unfold Board.check at h
  split at h
  · simp at h
  · split at h
    · assumption
    · simp at h
theorem Board.check_sizes {b : Board} (h : b.check = 0) : b.finds.length ≤ 60 ∧ b.slots.length ≤ 200 := by
  unfold Board.check at h
  split at h
  · simp at h
  · omega
theorem Board.Good.rooms {b : Board} (h : b.Good) : ∀ s : Int, 0 ≤ s → s < (pieces b.slots).length → 1 ≤ roomOf (pieces b.slots) s ∧ roomOf (pieces b.slots) s ≤ 1000 := fun s h0 hlt => by
  rw [pieces_length] at hlt
  obtain ⟨n, rfl⟩ : ∃ n : Nat, s = (n : Int) := ⟨s.toNat, by omega⟩
  have hn : n < b.slots.length := by omega
  rw [piece_of hn]
  have := (h.slots n hn hn).1
  unfold Slot.ok at this
  omega
theorem Board.check_fine {b : Board} (hs : b.small) (h : b.check = 0) : b.Fine := (Board.check_good h).fine hs
def Board.As (b : Board) (a : List Int) : Prop := Asg b.fits (pieces b.slots) a
theorem Board.no_as {b : Board} {H : List Int} (h : b.check = 0) (hH : Short b.fits (pieces b.slots) H) : ¬ ∃ a, b.As a := fun ⟨_, ha⟩ => Asg.no_short (Board.check_good h).inside ha hH

theorem check_t (Af As At : Option Addr) (cf cs ct : Nat) (b : Board) (w : World) (hs : b.small) (hB : BoardAt w Af As At b) {k : Int} (hk : b.check = k) :
    Calls Try.prog 47 #[.agg #[.slice Af b.finds.length cf, .slice As b.slots.length cs, .slice At b.fits.length ct]] w fun e w' => e = .returned (.int .i64 k) ∧ Below w.heap.size w w' := by
  subst hk
  exact check_any Af As At cf cs ct b w hs hB

/-- What is asked of a board, a find and a slot, where they are given. -/
noncomputable def askOf (b : Board) (f s : Int) (g0 g1 : Bool) : Int :=
  if b.check = 0 then (if (!g0 && !inB f 0 (b.finds.length - 1)) || (!g1 && !inB s 0 (b.slots.length - 1)) then 1 else 0) else b.check
theorem askOf_bad {b : Board} {f s : Int} {g0 g1 : Bool} (h : b.check ≠ 0) : askOf b f s g0 g1 = b.check := by unfold askOf; rw [if_neg h]
theorem askOf_ok {b : Board} {f s : Int} {g0 g1 : Bool} (h : askOf b f s g0 g1 = 0) : b.check = 0 := by
  unfold askOf at h
  split at h
  · assumption
  · assumption

set_option maxRecDepth 100000 in
set_option maxHeartbeats 4000000 in
theorem asked_any (b : Board) (Af As At : Option Addr) (cf cs ct g : Nat) (w : World) (hs : b.small) (hB : BoardAt w Af As At b) (f s : Int) (g0 g1 : Bool) (hg0 : w.cell? ⟨g, 0, none⟩ = some (.bool g0)) (hg1 : w.cell? ⟨g, 1, none⟩ = some (.bool g1)) :
    Calls Try.prog 58 #[.agg #[.slice Af b.finds.length cf, .slice As b.slots.length cs, .slice At b.fits.length ct], .int .i64 f, .int .i64 s, .slice (some ⟨g, 0, none⟩) 2 2] w fun e w' => e = .returned (.int .i64 (askOf b f s g0 g1)) ∧ Below w.heap.size w w' := by
  have h1 := hs.1
  have h2 := hs.2.1
  have HB := hid hB
  have HS := hid hs
  obtain ⟨W, hW, c0, c1, c2, hbW, hz⟩ := box3 w (.slice Af b.finds.length cf) (.slice As b.slots.length cs) (.slice At b.fits.length ct) 26
  have HBW := hid hbW
  have k0 := (Kept.of_below hbW) _ _ hg0
  have k1 := (Kept.of_below hbW) _ _ hg1
  clear hz hbW hB hs hg0 hg1
  by_cases hc : b.check = 0
  · have HC := hid hc
    have hask : askOf b f s g0 g1 = if (!g0 && !inB f 0 (b.finds.length - 1)) || (!g1 && !inB s 0 (b.slots.length - 1)) then 1 else 0 := by unfold askOf; rw [if_pos hc]
    have HASK := hid hask
    clear hc hask
    have fin : ∀ (x : Int) (w1 : World), Below W.heap.size W w1 → askOf b f s g0 g1 = x → Ending.returned (.int .i64 x) = .returned (.int .i64 (askOf b f s g0 g1)) ∧ Below w.heap.size w w1 := fun x w1 h e => ⟨by rw [e], HBW.out.trans (h.mono HBW.out.size)⟩
    have FIN := hid fin
    clear fin
    rcases hf : inB f 0 (b.finds.length - 1) with _ | _ <;> rcases hsl : inB s 0 (b.slots.length - 1) with _ | _ <;> cases g0 <;> cases g1
    all_goals
      have HF := hid hf
      have HSL := hid hsl
      clear hf hsl
      go_enter Try.func58, Try.ntmps58
      go_wp2_with fail
      refine (check_t Af As At cf cs ct b W HS.out (HB.out.kept (Kept.of_below HBW.out)) HC.out).mono ?_
      rintro e w1 ⟨rfl, hb1⟩
      have q0 := (Kept.of_below hb1) _ _ c0
      have q1 := (Kept.of_below hb1) _ _ c1
      have m0 := (Kept.of_below hb1) _ _ k0
      have m1 := (Kept.of_below hb1) _ _ k1
      have HB1 := hid hb1
      clear hb1
      go_wp2_with (first
        | (go_at_call_of 82 (Value.int IntKind.i64 f); refine (in_any _ _ _ _).mono ?_; rw [HF.out]; rintro e w' ⟨rfl, rfl⟩)
        | (go_at_call_of 82 (Value.int IntKind.i64 s); refine (in_any _ _ _ _).mono ?_; rw [HSL.out]; rintro e w' ⟨rfl, rfl⟩))
      go_ret
      exact FIN.out _ _ HB1.out (by rw [HASK.out, HF.out, HSL.out]; rfl)
  · have d1 : (b.check != 0) = true := by simpa using hc
    have HC := hid (askOf_bad (f := f) (s := s) (g0 := g0) (g1 := g1) hc)
    clear hc k0 k1
    go_enter Try.func58, Try.ntmps58
    go_wp2_with fail
    refine (check_any Af As At cf cs ct b W HS.out (HB.out.kept (Kept.of_below HBW.out))).mono ?_
    rintro e w1 ⟨rfl, hb1⟩
    have HB1 := hid hb1
    clear hb1
    go_wp2_with fail
    go_ret
    exact ⟨ret_int HC.out.symm, HBW.out.trans (HB1.out.mono HBW.out.size)⟩

set_option maxRecDepth 100000 in
set_option maxHeartbeats 4000000 in
theorem both_any (b : Board) (Af As At : Option Addr) (cf cs ct : Nat) (w : World) (hs : b.small) (hB : BoardAt w Af As At b) (f s : Int) {k : Int} (hk : askOf b f s false false = k) :
    Calls Try.prog 66 #[.agg #[.slice Af b.finds.length cf, .slice As b.slots.length cs, .slice At b.fits.length ct], .int .i64 f, .int .i64 s] w fun e w' => e = .returned (.int .i64 k) ∧ Below w.heap.size w w' := by
  subst hk
  have HB := hid hB
  have HS := hid hs
  obtain ⟨W, hW, c0, c1, c2, hbW, hz⟩ := box3 w (.slice Af b.finds.length cf) (.slice As b.slots.length cs) (.slice At b.fits.length ct) 26
  have HBW := hid hbW
  clear hz hbW hB hs
  go_enter Try.func66, Try.ntmps66
  go_wp2_with fail
  refine (asked_any b Af As At cf cs ct W.heap.size _ HS.out ((HB.out.kept (Kept.of_below HBW.out)).kept (Kept.of_below ((Below.refl _ _).alloc (Nat.le_refl _) _))) f s false false (by simp) (by simp)).mono ?_
  rintro e w1 ⟨rfl, hb1⟩
  have HB1 := hid (((Below.refl W.heap.size W).alloc (Nat.le_refl _) _).trans (hb1.mono (by simp)))
  clear hb1
  go_wp2_with fail
  go_ret
  exact ⟨rfl, HBW.out.trans (HB1.out.mono HBW.out.size)⟩
end Go.Proofs.Ytpmdjbjnihhjeaa
