/- What a board is, and when it is as the document says. -/
import Derived.Test.YtpmdjbjnihhjeaaHelpD
namespace Go.Proofs.Ytpmdjbjnihhjeaa
open Go.RowKit

structure Board where
  finds : List Int
  slots : List Slot
  fits : List (List Int)

def Board.small (b : Board) : Prop := b.finds.length ≤ 70 ∧ b.slots.length ≤ 210 ∧ b.fits.length ≤ 70 ∧ ∀ l ∈ b.fits, l.length ≤ 60

structure BoardAt (w : World) (Af As At : Option Addr) (b : Board) : Prop where
  finds : IntsAt w Af b.finds
  slots : SlotsAt w As b.slots
  fits : FitsAt w At b.fits

theorem BoardAt.kept {w w' : World} {Af As At : Option Addr} {b : Board} (h : BoardAt w Af As At b) (k : Kept w w') : BoardAt w' Af As At b :=
  ⟨h.finds.kept k, h.slots.kept k, h.fits.kept k⟩

theorem box3 (w : World) (v0 v1 v2 : Value) (T : TypeId) : ∃ W, w.alloc (.cells #[v0, v1, v2] T) = W ∧ W.cell? ⟨w.heap.size, 0, none⟩ = some v0 ∧ W.cell? ⟨w.heap.size, 1, none⟩ = some v1 ∧ W.cell? ⟨w.heap.size, 2, none⟩ = some v2 ∧
    Below w.heap.size w W ∧ W.heap.size = w.heap.size + 1 :=
  ⟨_, rfl, by simp, by simp, by simp, (Below.refl _ _).alloc (Nat.le_refl _) _, by simp⟩

def Slot.ok (s : Slot) : Prop := 1 ≤ s.loss ∧ s.loss ≤ 20 ∧ 1 ≤ s.pack ∧ s.pack ≤ 200 ∧ 1 ≤ s.pieces ∧ s.pieces ≤ 20
def Slot.lt (s t : Slot) : Prop := s.loss < t.loss ∨ s.loss = t.loss ∧ s.pack < t.pack
def SlotsTo (l : List Slot) (k : Nat) : Prop := ∀ j (h : j < l.length), j < k → l[j].ok ∧ (0 < j → (l[j - 1]).lt l[j])
def SlotsOk (l : List Slot) : Prop := SlotsTo l l.length
theorem SlotsTo.succ {l : List Slot} {k : Nat} (h : SlotsTo l k) (hk : k < l.length) (h1 : l[k].ok) (h3 : 0 < k → (l[k - 1]).lt l[k]) : SlotsTo l (k + 1) := by
  intro j hj hjk
  rcases Nat.lt_or_ge j k with hlt | hge
  · exact h j hj hlt
  · obtain rfl : j = k := by omega
    exact ⟨h1, h3⟩
/-- A board is as the document says. -/
structure Board.Good (b : Board) : Prop where
  finds : Rise b.finds 10 10000007
  slots : SlotsOk b.slots
  len : b.fits.length = b.finds.length
  fits : ∀ l ∈ b.fits, Rise l 0 (b.slots.length - 1)
open Classical in
noncomputable def Board.check (b : Board) : Int := if 60 < b.finds.length ∨ 200 < b.slots.length then 2 else if b.Good then 0 else 1
theorem Board.check_two {b : Board} (h : 60 < b.finds.length ∨ 200 < b.slots.length) : b.check = 2 := by unfold Board.check; rw [if_pos h]
theorem Board.check_one {b : Board} (h1 : ¬ 60 < b.finds.length) (h2 : ¬ 200 < b.slots.length) (h : ¬ b.Good) : b.check = 1 := by
  unfold Board.check; rw [if_neg (by omega), if_neg h]
theorem Board.check_ok {b : Board} (h1 : ¬ 60 < b.finds.length) (h2 : ¬ 200 < b.slots.length) (h : b.Good) : b.check = 0 := by
  unfold Board.check; rw [if_neg (by omega), if_pos h]

theorem asc_t (A : Option Addr) (cap : Nat) (xs : List Int) (b : Int) (w : World) (hm : xs.length ≤ 9223372036854775807) (hA : IntsAt w A xs) {t : Bool} (ht : decide (Rise xs 0 (b - 1)) = t) :
    Calls Try.prog 62 #[.slice A xs.length cap, .int .i64 b] w fun e w' => e = .returned (.bool t) ∧ Drew w w' := by
  subst ht
  exact ascending_any A cap xs b w hm hA

end Go.Proofs.Ytpmdjbjnihhjeaa
