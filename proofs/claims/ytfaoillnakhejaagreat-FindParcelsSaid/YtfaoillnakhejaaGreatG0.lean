/- The plain words of these proofs: how slices of numbers lie in memory, and that later worlds keep them. No condition. -/
import Derived.Test.YtfaoillnakhejaaGreatProg
import Derived.WalkKit
import Derived.WalkSpells
import Derived.WalkLawsBesides
import Derived.BigQuiet
import Derived.Deep.QuietTactic
import Derived.Deep.LoopGhost
import Derived.Below
namespace Go.Proofs.YtfaoillnakhejaaGreat
set_option maxRecDepth 100000
open Go.RowKit
theorem zz1 {α : Type} {l : List α} {i : Nat} : l.toArray[i]? = l[i]? := List.getElem?_toArray
theorem zz2 {α : Type} {a : α} {l : List α} : (a :: l)[0]? = some a := List.getElem?_cons_zero
theorem zz3 {α : Type} {a : α} {i : Nat} {l : List α} : (a :: l)[i + 1]? = l[i]? := List.getElem?_cons_succ
theorem zz4 {α : Type} {l : List α} {i : Nat} {a : α} : l.toArray.setIfInBounds i a = (l.set i a).toArray := List.setIfInBounds_toArray _ _ _
theorem zz5 {α : Type} {l : List α} {a b : α} : (a :: l).set 0 b = b :: l := List.set_cons_zero
theorem zz6 {α : Type} {l : List α} {n : Nat} {a b : α} : (a :: l).set (n + 1) b = a :: l.set n b := List.set_cons_succ
theorem hid {p : Prop} (h : p) : Hid p := h
theorem ret_bool {a b : Bool} (h : a = b) : Ending.returned (.bool a) = .returned (.bool b) := by rw [h]
theorem ret_int {a b : Int} (h : a = b) : Ending.returned (.int .i64 a) = .returned (.int .i64 b) := by rw [h]
theorem cell_lt {w : World} {a : Addr} {v : Value} (h : w.cell? a = some v) : a.block < w.heap.size := by
  unfold World.cell? at h
  rcases Nat.lt_or_ge a.block w.heap.size with hlt | hge
  · exact hlt
  · rw [Array.getElem?_eq_none hge] at h; cases h
/-- A slice that starts at A holds the numbers xs. -/
def IntsAt (w : World) (A : Option Addr) (xs : List Int) : Prop :=
  0 < xs.length → ∃ b off, A = some ⟨b, off, none⟩ ∧ ∀ j (h : j < xs.length), w.cell? ⟨b, off + j, none⟩ = some (.int .i64 xs[j])
/-- What cells hold in w they hold in w'. -/
def Kept (w w' : World) : Prop := ∀ (a : Addr) v, w.cell? a = some v → w'.cell? a = some v
theorem Kept.refl (w : World) : Kept w w := fun _ _ h => h
theorem Kept.trans {a b c : World} (h : Kept a b) (k : Kept b c) : Kept a c := fun _ _ hv => k _ _ (h _ _ hv)
theorem Kept.of_below {w w' : World} (h : Below w.heap.size w w') : Kept w w' := fun _ _ hv => (h.cell (cell_lt hv)).trans hv
theorem IntsAt.kept {w w' : World} {A : Option Addr} {xs : List Int} (h : IntsAt w A xs) (k : Kept w w') : IntsAt w' A xs := fun h0 => by
  obtain ⟨b, off, e, hc⟩ := h h0
  exact ⟨b, off, e, fun j hj => k _ _ (hc j hj)⟩
theorem IntsAt.nil (w : World) (A : Option Addr) : IntsAt w A [] := fun h => absurd h (by simp)
/-- w' is w after some draws. -/
def Drew (w w' : World) : Prop := ∃ n, w' = w.drewN n
theorem Drew.refl (w : World) : Drew w w := ⟨0, rfl⟩
theorem Drew.more {w w' : World} (h : Drew w w') (n : Nat) : Drew w (w'.drewN n) := by
  obtain ⟨m, rfl⟩ := h
  exact ⟨m + n, World.drewN_drewN _ _ _⟩
theorem Drew.trans {a b c : World} (h : Drew a b) (k : Drew b c) : Drew a c := by
  obtain ⟨m, rfl⟩ := k
  exact h.more m
theorem Drew.kept {w w' : World} (h : Drew w w') : Kept w w' := by
  obtain ⟨m, rfl⟩ := h
  exact fun _ _ h => h
theorem Below.drewN' {B : Nat} {a w : World} (h : Below B a w) (n : Nat) : Below B a (w.drewN n) := ⟨h.os, h.tape, h.output, h.size, h.block⟩
theorem Drew.below {w w' : World} (h : Drew w w') (B : Nat) : Below B w w' := by
  obtain ⟨m, rfl⟩ := h
  exact Below.drewN' (Below.refl _ _) m
theorem Calls.quietly {P : Program} {f : FuncId} {args : Array Value} {w : World} {n : Nat} {v : Value} (h : Calls P f args (w.drewN n) fun e w' => e = .returned v ∧ Drew (w.drewN n) w') :
    Calls P f args (w.drewN n) fun e w'' => e = .returned v ∧ ∃ m, w'' = w.drewN m :=
  Calls.quiet_of (h.mono fun _ _ ⟨he, m, hm⟩ => ⟨he, m, hm⟩)
end Go.Proofs.YtfaoillnakhejaaGreat
