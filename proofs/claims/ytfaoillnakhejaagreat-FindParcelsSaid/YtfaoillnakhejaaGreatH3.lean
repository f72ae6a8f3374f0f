/- slices.Sort of a row of the call's own. -/
import Derived.Test.YtfaoillnakhejaaGreatH1
import Derived.Sort.OwnSortedInts
import Derived.Test.YtfaoillnakhejaaGreatH2
namespace Go.Proofs.YtfaoillnakhejaaGreat
set_option maxRecDepth 100000
open Go.RowKit
def sortL (xs : List Int) : List Int := xs.mergeSort fun x y => decide (x ≤ y)
theorem sortL_perm (xs : List Int) : (sortL xs).Perm xs := List.mergeSort_perm _ _
theorem sortL_length (xs : List Int) : (sortL xs).length = xs.length := (sortL_perm xs).length_eq
theorem sortL_sorted (xs : List Int) : (sortL xs).Pairwise (· ≤ ·) := by
 have := List.pairwise_mergeSort (le := fun x y : Int => decide (x ≤ y)) (fun a b c h1 h2 => by simp at *; omega) (fun a b => by simp; omega) xs
 exact this.imp (by simp)
theorem sortL_strict {xs : List Int} (h : xs.Nodup) : (sortL xs).Pairwise (· < ·) := by
 have h1 := (sortL_perm xs).nodup_iff.2 h
 exact ((sortL_sorted xs).and h1).imp (fun ⟨a, b⟩ => by omega)
theorem sort_own {w : World} {base : Nat} {v : Value} {xs : List Int} (hown : w.ownsRow base 3 1 v xs.length (ints xs)) (hl : xs.length ≤ 1000000) :
  Calls Tryz.prog 89 #[v] w fun e w' => e = .returned (.tuple #[]) ∧ w'.ownsRow base 3 1 v xs.length (ints (sortL xs)) ∧ (w' = w ∨ ∃ g cap, v = .slice (some ⟨g, 0, none⟩) xs.length cap ∧ base ≤ g ∧ w.grownBy w' (some g)) := by
 rcases Nat.eq_zero_or_pos xs.length with h0 | h0
 ·have hx : xs = [] := List.eq_nil_of_length_eq_zero h0
  subst hx
  obtain ⟨A, cap, rfl, _⟩ := ownsRow.form hown
  refine (Tryz.slices_Sort_int_none A cap w).mono ?_
  rintro e w' ⟨rfl, rfl⟩
  exact ⟨rfl, by simpa [sortL] using hown, .inl rfl⟩
 ·rcases hown.2 with ⟨_, h⟩ | ⟨g, cap, cur, rfl, hg, hb, h1, h2, h3, h4⟩
  ·omega
  have ht : cur.toList.take xs.length = xs.map (Value.int .i64) := by simpa [ints] using h4
  refine (Tryz.slices_Sort_int g 0 cap xs w (holds_of_blockI hb ht) (Array.getElem?_eq_some_iff.1 hb).1 (by omega)).mono ?_
  rintro e w' ⟨rfl, n, os, rfl⟩
  exact ⟨rfl, ownsRow_sortedI (ts := sortL xs) (sortL_length xs) hg hb h1 h2 h3, .inr ⟨g, cap, rfl, hg, grownBy_sortedI _⟩⟩
end Go.Proofs.YtfaoillnakhejaaGreat
