/- The plain words of this seat's proofs: how slices of numbers, of slots and of lists lie in memory, and that later worlds keep them. No condition. -/
import Derived.Test.YtpmdjbjnihhjeaaProg
import Derived.WalkKit
import Derived.WalkSpells
import Derived.WalkLawsBesides
import Derived.BigQuiet
import Derived.Deep.QuietTactic
import Derived.Deep.LoopGhost
namespace Go.Proofs.Ytpmdjbjnihhjeaa
open Go.RowKit

theorem hid {p : Prop} (h : p) : Hid p := h
theorem ret_bool {a b : Bool} (h : a = b) : Ending.returned (.bool a) = .returned (.bool b) := by rw [h]
theorem ret_int {a b : Int} (h : a = b) : Ending.returned (.int .i64 a) = .returned (.int .i64 b) := by rw [h]

theorem cell_lt {w : World} {a : Addr} {v : Value} (h : w.cell? a = some v) : a.block < w.heap.size := by
  unfold World.cell? at h
  rcases Nat.lt_or_ge a.block w.heap.size with hlt | hge
  · exact hlt
  · rw [Array.getElem?_eq_none hge] at h; cases h

/-- A slice that starts at A holds the numbers xs. -/
def IntsAt (w : World) (A : Option Addr) (xs : List Int) : Prop :=
  0 < xs.length → ∃ b off, A = some ⟨b, off, none⟩ ∧ ∀ j (h : j < xs.length), w.cell? ⟨b, off + j, none⟩ = some (.int .i64 xs[j])

structure Slot where
  loss : Int
  pack : Int
  pieces : Int
  deriving DecidableEq

def SlotsAt (w : World) (A : Option Addr) (ss : List Slot) : Prop :=
  0 < ss.length → ∃ b off, A = some ⟨b, off, none⟩ ∧ ∀ j (h : j < ss.length),
    w.cell? ⟨b, off + j * 3, none⟩ = some (.int .i64 ss[j].loss) ∧ w.cell? ⟨b, off + j * 3 + 1, none⟩ = some (.int .i64 ss[j].pack) ∧ w.cell? ⟨b, off + j * 3 + 2, none⟩ = some (.int .i64 ss[j].pieces)

def FitsAt (w : World) (A : Option Addr) (ff : List (List Int)) : Prop :=
  0 < ff.length → ∃ b off, A = some ⟨b, off, none⟩ ∧ ∀ j (h : j < ff.length),
    ∃ Aj cj, w.cell? ⟨b, off + j, none⟩ = some (.slice Aj ff[j].length cj) ∧ IntsAt w Aj ff[j]

/-- What cells hold in w they hold in w'. -/
def Kept (w w' : World) : Prop := ∀ (a : Addr) v, w.cell? a = some v → w'.cell? a = some v

theorem Kept.refl (w : World) : Kept w w := fun _ _ h => h
theorem Kept.trans {a b c : World} (h : Kept a b) (k : Kept b c) : Kept a c := fun _ _ hv => k _ _ (h _ _ hv)
theorem Kept.of_below {w w' : World} (h : Below w.heap.size w w') : Kept w w' := fun _ _ hv => (h.cell (cell_lt hv)).trans hv
theorem IntsAt.kept {w w' : World} {A : Option Addr} {xs : List Int} (h : IntsAt w A xs) (k : Kept w w') : IntsAt w' A xs := fun h0 => by
  obtain ⟨b, off, e, hc⟩ := h h0
  exact ⟨b, off, e, fun j hj => k _ _ (hc j hj)⟩
theorem SlotsAt.kept {w w' : World} {A : Option Addr} {xs : List Slot} (h : SlotsAt w A xs) (k : Kept w w') : SlotsAt w' A xs := fun h0 => by
  obtain ⟨b, off, e, hc⟩ := h h0
  exact ⟨b, off, e, fun j hj => ⟨k _ _ (hc j hj).1, k _ _ (hc j hj).2.1, k _ _ (hc j hj).2.2⟩⟩
theorem FitsAt.kept {w w' : World} {A : Option Addr} {xs : List (List Int)} (h : FitsAt w A xs) (k : Kept w w') : FitsAt w' A xs := fun h0 => by
  obtain ⟨b, off, e, hc⟩ := h h0
  refine ⟨b, off, e, fun j hj => ?_⟩
  obtain ⟨Aj, cj, h1, h2⟩ := hc j hj
  exact ⟨Aj, cj, k _ _ h1, h2.kept k⟩
theorem IntsAt.nil (w : World) (A : Option Addr) : IntsAt w A [] := fun h => absurd h (by simp)

end Go.Proofs.Ytpmdjbjnihhjeaa
