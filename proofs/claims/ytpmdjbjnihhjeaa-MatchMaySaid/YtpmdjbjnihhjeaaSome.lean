/- A trial in which there is an assignment, or none; what is asked first. -/
import Derived.Test.YtpmdjbjnihhjeaaTried
import Derived.Test.YtpmdjbjnihhjeaaCheck
namespace Go.Proofs.Ytpmdjbjnihhjeaa
open Go.RowKit

/-- A board that can be tried. -/
structure Board.Fine (b : Board) : Prop where
  finds : b.finds.length ≤ 100
  slots : b.slots.length ≤ 300
  fits : b.fits.length = b.finds.length
  lens : ∀ l ∈ b.fits, l.length ≤ 1000
  inside : Inside b.fits (pieces b.slots).length
  room : ∀ s : Int, 0 ≤ s → s < (pieces b.slots).length → 0 ≤ roomOf (pieces b.slots) s

theorem Board.Good.inside {b : Board} (h : b.Good) : Inside b.fits (pieces b.slots).length := fun f s hs => by
  have hf : fitOf b.fits f ≠ [] := fun e => by rw [e] at hs; simp at hs
  have hlt := fitOf_ne hf
  rw [fitOf_lt hlt] at hs
  have := (rise_iff.1 (h.fits _ (List.getElem_mem hlt))).2 s hs
  rw [pieces_length]
  omega
theorem piece_of {ss : List Slot} {s : Nat} (h : s < ss.length) : roomOf (pieces ss) (s : Int) = ss[s].pieces := by
  rw [roomOf_lt (by rw [pieces_length]; exact h)]
  simp [pieces]
theorem Board.Good.fine {b : Board} (h : b.Good) (hs : b.small) : b.Fine := by
  obtain ⟨h1, h2, h3, h4⟩ := hs
  refine ⟨by omega, by omega, h.len, fun l hl => by have := h4 l hl; omega, h.inside, fun s h0 hlt => ?_⟩
  rw [pieces_length] at hlt
  obtain ⟨n, rfl⟩ : ∃ n : Nat, s = (n : Int) := ⟨s.toNat, by omega⟩
  have hn : n < b.slots.length := by omega
  rw [piece_of hn]
  have := (h.slots n hn hn).1
  unfold Slot.ok at this
  omega

/-- The board as an argument. -/
def bval (b : Board) (Af As At : Option Addr) (cf cs ct : Nat) : Value := .agg #[.slice Af b.finds.length cf, .slice As b.slots.length cs, .slice At b.fits.length ct]

/-- What some(b) comes to. -/
def SomePost (b : Board) (w : World) (e : Ending) (w' : World) : Prop :=
  ∃ tb, (e = .returned (.tuple #[.pointer (some ⟨tb, 0, none⟩), .bool true]) ∧ ∃ w0 hb rb has, Below w.heap.size w w0 ∧ TriedAt w0 w' tb hb rb b (pieces b.slots) has ∧ Asg b.fits (pieces b.slots) has) ∨
    (e = .returned (.tuple #[.pointer (some ⟨tb, 0, none⟩), .bool false]) ∧ Below w.heap.size w w' ∧ ∃ H, Short b.fits (pieces b.slots) H)

set_option maxRecDepth 100000 in
set_option maxHeartbeats 4000000 in
theorem some_any (b : Board) (Af As At : Option Addr) (cf cs ct : Nat) (w : World) (hf : b.Fine) (hB : BoardAt w Af As At b) :
    Calls Try.prog 52 #[.agg #[.slice Af b.finds.length cf, .slice As b.slots.length cs, .slice At b.fits.length ct]] w (SomePost b w) := by
  have HB := hid hB
  have HF := hid hf
  clear hB hf
  obtain ⟨W, hW, c0, c1, c2, hbW, hz⟩ := box3 w (.slice Af b.finds.length cf) (.slice As b.slots.length cs) (.slice At b.fits.length ct) 26
  have HBW := hid hbW
  clear hz hbW
  go_enter Try.func52, Try.ntmps52
  go_wp2_with fail
  refine (tried_any b Af As At cf cs ct W HF.out.finds HF.out.slots HF.out.fits (HB.out.kept (Kept.of_below HBW.out))).mono ?_
  rintro e w1 ⟨tb, hb, rb, rfl, hT⟩
  have HT := hid hT
  clear hT hW c0 c1 c2
  go_wp2_with fail
  obtain ⟨ht1, ht2, ht3⟩ := HT.out.trial
  refine (fill_any _ tb hb b.fits (pieces b.slots) ht1 ht2 (by rw [HF.out.fits]; exact HF.out.finds) (by rw [pieces_length]; exact HF.out.slots) HF.out.lens HF.out.inside HF.out.room (-1) (.inl (by omega)) w1 ht3 HT.out.hasRow).mono ?_
  rintro e w2 ⟨ho, ⟨rfl, has, hF, hrow⟩ | ⟨H, A, c, rfl, hA, hS⟩⟩
  · have HO := hid ho
    have HF2 := hid hF
    have HR := hid hrow
    clear ho hF hrow ht1 ht2 ht3
    go_wp2_with fail
    go_ret2
    exact ⟨tb, .inl ⟨rfl, W, hb, rb, has, HBW.out, HT.out.only HO.out HR.out, HF2.out.asg (by omega)⟩⟩
  · have HO := hid ho
    have HS := hid hS
    clear ho hS hA ht1 ht2 ht3
    go_wp2_with fail
    go_ret2
    refine ⟨tb, .inr ⟨rfl, ?_, H, HS.out.short⟩⟩
    exact (HBW.out.trans (HT.out.kept.mono HBW.out.size)).trans (HO.out.below (fun x hx => by rw [List.mem_singleton] at hx; subst hx; exact Nat.le_trans HBW.out.size HT.out.lo.2.1) (Nat.le_trans HBW.out.size HT.out.kept.size))

/-- What matched(b) comes to. -/
def MatchedPost (b : Board) (w : World) (e : Ending) (w' : World) : Prop :=
  (∃ tb, e = .returned (.tuple #[.pointer (some ⟨tb, 0, none⟩), .int .i64 0]) ∧ ∃ w0 hb rb has, Below w.heap.size w w0 ∧ TriedAt w0 w' tb hb rb b (pieces b.slots) has ∧ Asg b.fits (pieces b.slots) has) ∨
    (e = .returned (.tuple #[.pointer none, .int .i64 40]) ∧ Below w.heap.size w w' ∧ ∃ H, Short b.fits (pieces b.slots) H)

set_option maxRecDepth 100000 in
set_option maxHeartbeats 4000000 in
theorem matched_any (b : Board) (Af As At : Option Addr) (cf cs ct : Nat) (w : World) (hf : b.Fine) (hB : BoardAt w Af As At b) :
    Calls Try.prog 56 #[.agg #[.slice Af b.finds.length cf, .slice As b.slots.length cs, .slice At b.fits.length ct]] w (MatchedPost b w) := by
  have HB := hid hB
  have HF := hid hf
  clear hB hf
  obtain ⟨W, hW, c0, c1, c2, hbW, hz⟩ := box3 w (.slice Af b.finds.length cf) (.slice As b.slots.length cs) (.slice At b.fits.length ct) 26
  have HBW := hid hbW
  clear hz hbW
  go_enter Try.func56, Try.ntmps56
  go_wp2_with fail
  refine (some_any b Af As At cf cs ct W HF.out (HB.out.kept (Kept.of_below HBW.out))).mono ?_
  rintro e w1 ⟨tb, ⟨rfl, hT⟩ | ⟨rfl, hb1, hS⟩⟩
  · have HT := hid hT
    clear hT hW c0 c1 c2
    go_wp2_with fail
    go_ret2
    obtain ⟨w0, hb, rb, has, h1, h2, h3⟩ := HT.out
    exact .inl ⟨tb, rfl, w0, hb, rb, has, HBW.out.trans (h1.mono HBW.out.size), h2, h3⟩
  · have HS := hid hS
    have HB1 := hid hb1
    clear hS hW c0 c1 c2 hb1
    go_wp2_with fail
    go_ret2
    exact .inr ⟨rfl, HBW.out.trans (HB1.out.mono HBW.out.size), HS.out⟩
end Go.Proofs.Ytpmdjbjnihhjeaa
