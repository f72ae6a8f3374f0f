/- Sorting and compacting a row of a call's own, in this seat's words. -/
import Derived.Test.YtpmdjbjnihhjeaaTrial
namespace Go.Proofs.Ytpmdjbjnihhjeaa
open Go.RowKit Go.Lib Go.Sort

theorem compactUpTo_sorted (zs : List Int) (hs : zs.Pairwise (· ≤ ·)) : ∀ m, m ≤ zs.length → (compactUpTo zs.toArray m).Pairwise (· < ·) ∧ ∀ x, x ∈ compactUpTo zs.toArray m ↔ x ∈ zs.take m
  | 0, _ => by simp [compactUpTo]
  | m + 1, h => by
    obtain ⟨h1, h2⟩ := compactUpTo_sorted zs hs m (by omega)
    have hm : m < zs.length := by omega
    have hget : ∀ j (hj : j < zs.length), zs.toArray[j]! = zs[j] := fun j hj => by rw [getElem!_pos _ j (by simpa using hj)]; simp
    rw [compactUpTo_succ, List.take_succ_eq_append_getElem hm, hget m hm]
    by_cases hk : keeps zs.toArray m = true
    · rw [if_pos hk]
      refine ⟨List.pairwise_append.2 ⟨h1, by simp, fun x hx y hy => ?_⟩, fun x => by simp only [List.mem_append, h2]⟩
      rw [List.mem_singleton] at hy
      subst hy
      rw [h2] at hx
      obtain ⟨j, hj, rfl⟩ := List.getElem_of_mem hx
      rw [List.length_take] at hj
      rw [List.getElem_take]
      unfold keeps at hk
      have hk' : m = 0 ∨ zs.toArray[m]! ≠ zs.toArray[m - 1]! := by simpa using hk
      rcases hk' with e | e
      · omega
      · rw [hget m hm, hget (m - 1) (by omega)] at e
        have h3 := List.pairwise_iff_getElem.1 hs (m - 1) m (by omega) hm (by omega)
        have h4 : zs[j] ≤ zs[m - 1] := by
          rcases Nat.lt_or_ge j (m - 1) with h5 | h5
          · exact List.pairwise_iff_getElem.1 hs j (m - 1) (by omega) (by omega) h5
          · have : j = m - 1 := by omega
            subst this; exact Int.le_refl _
        omega
    · rw [if_neg hk, List.append_nil]
      refine ⟨h1, fun x => ?_⟩
      rw [h2]
      simp only [List.mem_append, List.mem_singleton]
      constructor
      · exact .inl
      · rintro (h3 | h3)
        · exact h3
        · unfold keeps at hk
          have hk' : ¬ m = 0 ∧ zs.toArray[m]! = zs.toArray[m - 1]! := by simpa using hk
          rw [hget m hm, hget (m - 1) (by omega)] at hk'
          rw [h3, hk'.2]
          rw [show zs[m - 1] = (zs.take m)[m - 1]'(by simp; omega) from by simp]
          exact List.getElem_mem _

/-- Strictly ascending, with the same numbers. -/
def setList (zs : List Int) : List Int := compact (zs.mergeSort fun x y => decide (x ≤ y))
theorem setList_spec (zs : List Int) : (setList zs).Pairwise (· < ·) ∧ ∀ x, x ∈ setList zs ↔ x ∈ zs := by
  have h1 : (zs.mergeSort fun x y => decide (x ≤ y)).Pairwise (· ≤ ·) := by
    have := List.pairwise_mergeSort (le := fun x y : Int => decide (x ≤ y)) (fun a b c h1 h2 => by simp at *; omega) (fun a b => by simp; omega) zs
    exact this.imp (by simp)
  have h2 := compactUpTo_sorted _ h1 _ (Nat.le_refl _)
  refine ⟨h2.1, fun x => ?_⟩
  unfold setList compact
  rw [h2.2, List.take_length]
  simp

theorem RowAt.holds {w : World} {g : Nat} {zs : List Int} (h : RowAt (Value.int .i64) w g zs) : Holds (Value.int .i64) w g 0 zs.toArray := fun j hj => by
  have hj' : j < zs.length := by simpa using hj
  rw [Nat.zero_add, getElem!_pos _ j hj]
  simpa using h j hj'
theorem putRow_only {w : World} {g off : Nat} {d : Array Int} (n : Nat) : Only [g] w (putRow (Value.int .i64) (Sort.ahead w n) g off d) := by
  refine ⟨rfl, rfl, rfl, by simp, fun k _ hx => ?_⟩
  simp only [putRow, mapBlock, Array.getElem?_modify]
  rw [if_neg (by simpa using fun e => hx (by simp [e]))]
  rfl
theorem putRow_rowAt {w : World} {g : Nat} {zs ys : List Int} (h : RowAt (Value.int .i64) w g zs) (n : Nat) (hl : ys.length = zs.length) : RowAt (Value.int .i64) (putRow (Value.int .i64) (Sort.ahead w n) g 0 ys.toArray) g ys := fun j hj => by
  have := holds_putRow (Value.int .i64) (Sort.ahead w n) g 0 zs.toArray ys.toArray h.holds (by simpa using hl) j (by simpa using hj)
  rw [Nat.zero_add, getElem!_pos _ j (by simpa using hj)] at this
  simpa using this

theorem sort_row (g cap n : Nat) (zs : List Int) (w : World) (hz : zs.length = n) (h : RowAt (Value.int .i64) w g zs) (h0 : 0 < zs.length) (hl : zs.length ≤ 1000000) :
    Calls Try.prog 97 #[.slice (some ⟨g, 0, none⟩) n cap] w fun e w' => e = .returned (.tuple #[]) ∧ Only [g] w w' ∧ RowAt (Value.int .i64) w' g (zs.mergeSort fun x y => decide (x ≤ y)) := by
  subst hz
  refine (Try.slices_Sort_int g 0 cap zs w h.holds (h.lt h0) (by omega)).mono ?_
  rintro e w' ⟨rfl, n, os, rfl⟩
  have ho := putRow_only (w := w) (g := g) (off := 0) (d := (zs.mergeSort fun x y => decide (x ≤ y)).toArray) n
  have hg : Below (putRow (Value.int .i64) (Sort.ahead w n) g 0 (zs.mergeSort fun x y => decide (x ≤ y)).toArray).heap.size (putRow (Value.int .i64) (Sort.ahead w n) g 0 (zs.mergeSort fun x y => decide (x ≤ y)).toArray) (grow (putRow (Value.int .i64) (Sort.ahead w n) g 0 (zs.mergeSort fun x y => decide (x ≤ y)).toArray) os) :=
    ⟨rfl, rfl, rfl, by simp, fun k hk => heap_grow_old _ _ hk⟩
  exact ⟨rfl, ho.then hg, (putRow_rowAt h n (by simp)).below hg⟩

theorem compact_row (g cap n : Nat) (zs : List Int) (w : World) (hz : zs.length = n) (h : RowAt (Value.int .i64) w g zs) (hl : zs.length ≤ 1000000) (hc : zs.length ≤ cap) :
    Calls Try.prog 98 #[.slice (some ⟨g, 0, none⟩) n cap] w fun e w' => e = .returned (.slice (some ⟨g, 0, none⟩) (compact zs).length cap) ∧ Only [g] w w' ∧ RowAt (Value.int .i64) w' g (compact zs) := by
  subst hz
  refine (Try.slices_Compact_int g 0 cap zs w h.holds (by omega) hc).mono ?_
  rintro e w' ⟨rfl, q, rfl⟩
  have hle := compact_length_le zs
  have := putRow_rowAt (ys := compact zs ++ List.replicate (zs.length - (compact zs).length) 0) h q (by simp; omega)
  refine ⟨rfl, putRow_only q, fun j hj => ?_⟩
  have h2 := this j (by simp; omega)
  rw [List.getElem_append_left hj] at h2
  exact h2
end Go.Proofs.Ytpmdjbjnihhjeaa
