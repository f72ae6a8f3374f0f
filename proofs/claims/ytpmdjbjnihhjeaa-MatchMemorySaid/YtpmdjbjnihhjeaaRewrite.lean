/- Rows that are written over: what stays as it is (for MatchMemory). -/
import Derived.Test.YtpmdjbjnihhjeaaFitted
namespace Go.Proofs.Ytpmdjbjnihhjeaa
open Go.RowKit
set_option linter.unusedSimpArgs false

/-- Between V and w only blocks from n₀ up to n₁ have been written. -/
structure Amid (n₀ n₁ : Nat) (V w : World) : Prop where
  os : w.os = V.os
  tape : w.tape = V.tape
  output : w.output = V.output
  size : V.heap.size ≤ w.heap.size
  block : ∀ i, i < V.heap.size → (i < n₀ ∨ n₁ ≤ i) → w.heap[i]? = V.heap[i]?
section
variable {n₀ n₁ : Nat} {V w w' : World}
theorem Amid.refl (n₀ n₁ : Nat) (V : World) : Amid n₀ n₁ V V := ⟨rfl, rfl, rfl, Nat.le_refl _, fun _ _ _ => rfl⟩
theorem Amid.below (h : Amid n₀ n₁ V w) (hb : Below w.heap.size w w') : Amid n₀ n₁ V w' :=
  ⟨hb.os.trans h.os, hb.tape.trans h.tape, hb.output.trans h.output, Nat.le_trans h.size hb.size, fun i hi hx => (hb.block i (Nat.lt_of_lt_of_le hi h.size)).trans (h.block i hi hx)⟩
theorem Amid.set (h : Amid n₀ n₁ V w) {g o : Nat} (hg : n₀ ≤ g ∧ g < n₁) (u : Value) : Amid n₀ n₁ V (w.setCell ⟨g, o, none⟩ u) := by
  have ho : Only [g] w (w.setCell ⟨g, o, none⟩ u) := (Only.refl _ _).setCell (by simp) u
  exact ⟨ho.os.trans h.os, ho.tape.trans h.tape, ho.output.trans h.output, Nat.le_trans h.size ho.size, fun i hi hx => (ho.block i (Nat.lt_of_lt_of_le hi h.size) (by rw [List.mem_singleton]; omega)).trans (h.block i hi hx)⟩
/-- What lies below n₀ or from n₁ on reads as it did. -/
theorem Amid.cell (h : Amid n₀ n₁ V w) {p : Addr} {v : Value} (hp : V.cell? p = some v) (hx : p.block < n₀ ∨ n₁ ≤ p.block) : w.cell? p = some v :=
  (World.cell?_of_block (h.block p.block (cell_lt hp) hx)).trans hp
theorem Amid.lo (h : Amid n₀ n₁ V w) {B : Nat} {a : World} (ha : Below B a V) (hB : B ≤ n₀) (hn : B ≤ V.heap.size) : Below B a w :=
  ⟨h.os.trans ha.os, h.tape.trans ha.tape, h.output.trans ha.output, Nat.le_trans ha.size h.size, fun i hi => (h.block i (by omega) (.inl (by omega))).trans (ha.block i hi)⟩
theorem own_amid {base size n : Nat} {e : TypeId} {v : Value} {xs : List Value} (h : V.ownsRow base e size v n xs) (ha : Amid n₀ n₁ V w) (hb : n₁ ≤ base) : w.ownsRow base e size v n xs := by
  refine ⟨h.1, ?_⟩
  rcases h.2 with h2 | ⟨g, cap, cur, rfl, h1, h3, h4⟩
  · exact .inl h2
  · exact .inr ⟨g, cap, cur, rfl, h1, (ha.block g (Array.getElem?_eq_some_iff.1 h3).1 (.inr (Nat.le_trans hb h1))).trans h3, h4⟩
theorem MadeAt.amid {base : Nat} {vf vs vt : Value} {b : Board} (h : MadeAt base V vf vs vt b) (ha : Amid n₀ n₁ V w) (hb : n₁ ≤ base) : MadeAt base w vf vs vt b := by
  obtain ⟨us, h1, h2, h3, h4⟩ := h.fits
  refine ⟨own_amid h.finds ha hb, own_amid h.slots ha hb, us, own_amid h1 ha hb, ⟨h2.1, fun j hj => ?_⟩, h3, h4⟩
  obtain ⟨v, k1, k2⟩ := h2.2 j hj
  exact ⟨v, k1, own_amid k2 ha hb⟩
end

/-- A row of the call's own after one of its cells was written. -/
theorem own_put {w : World} {base size n g cap k : Nat} {e : TypeId} {xs : List Value} {u : Value} (h : w.ownsRow base e size (.slice (some ⟨g, 0, none⟩) n cap) n xs) : (w.setCell ⟨g, k, none⟩ u).ownsRow base e size (.slice (some ⟨g, 0, none⟩) n cap) n (xs.set k u) := by
  rcases h.2 with ⟨h2, _⟩ | ⟨g', cap', cur, h1, hb, h2, h3, h4, h5, h6⟩
  · cases h2
  · cases h1
    refine ⟨by rw [List.length_set]; exact h.1, .inr ⟨g, cap, _, rfl, hb, set_block h2, h3, h4, by simpa using h5, ?_⟩⟩
    rw [Array.toList_setIfInBounds, List.take_set, h6]
theorem ints_set (xs : List Int) (k : Nat) (v : Int) : (ints xs).set k (.int .i64 v) = ints (xs.set k v) := by simp [ints, List.map_set]

/-- Rows of numbers of the call's own, of these lengths, whatever they hold. -/
def RowsLen (w : World) (base : Nat) (us : List Value) (ls : List Nat) : Prop :=
  us.length = ls.length ∧ ∀ j (h : j < ls.length), ∃ v xs, us[j]? = some v ∧ xs.length = ls[j] ∧ w.ownsRow base 3 1 v xs.length (ints xs)
theorem ListsOwn.lens {w : World} {base : Nat} {us : List Value} {ls : List (List Int)} (h : ListsOwn w base us ls) : RowsLen w base us (ls.map List.length) := by
  refine ⟨by rw [List.length_map]; exact h.1, fun j hj => ?_⟩
  rw [List.length_map] at hj
  obtain ⟨v, h1, h2⟩ := h.2 j hj
  exact ⟨v, ls[j], h1, by simp, h2⟩
theorem RowsLen.below {w w' : World} {base : Nat} {us : List Value} {ls : List Nat} (h : RowsLen w base us ls) (hb : Below w.heap.size w w') : RowsLen w' base us ls :=
  ⟨h.1, fun j hj => by
    obtain ⟨v, xs, h1, h2, h3⟩ := h.2 j hj
    exact ⟨v, xs, h1, h2, own_below h3 hb⟩⟩
/-- A number written into a block leaves all rows as long as they were. -/
theorem RowsLen.put {w : World} {base g k : Nat} {us : List Value} {ls : List Nat} {x : Int} (h : RowsLen w base us ls) : RowsLen (w.setCell ⟨g, k, none⟩ (.int .i64 x)) base us ls :=
  ⟨h.1, fun j hj => by
    obtain ⟨v, xs, h1, h2, h3⟩ := h.2 j hj
    have ho : Only [g] w (w.setCell ⟨g, k, none⟩ (.int .i64 x)) := (Only.refl _ _).setCell (by simp) _
    by_cases hv : v.ownBlock = some g
    · obtain ⟨A, c, rfl, _, hc, hA⟩ := ownsRow.form h3
      cases A with
      | none => simp [Value.ownBlock] at hv
      | some a =>
        have hab := (hA a rfl).2.1
        simp only [Value.ownBlock, Option.some.injEq] at hv
        rw [hab, hv] at h1 h3
        refine ⟨_, xs.set k x, h1, by rw [List.length_set]; exact h2, ?_⟩
        rw [List.length_set, ← ints_set]
        exact own_put h3
    · exact ⟨v, xs, h1, h2, own_onlyN h3 ho (fun y hy => by rw [List.mem_singleton]; rintro rfl; exact hv hy)⟩⟩
theorem RowsLen.setT {w : World} {base g k : Nat} {us : List Value} {ls : List Nat} {u : Value} {cs : Array Value} {e' : TypeId} (h : RowsLen w base us ls) (hc : w.heap[g]? = some (.cells cs e' (0, 0))) (hne : 3 ≠ e') : RowsLen (w.setCell ⟨g, k, none⟩ u) base us ls :=
  ⟨h.1, fun j hj => by
    obtain ⟨v, xs, h1, h2, h3⟩ := h.2 j hj
    exact ⟨v, xs, h1, h2, own_set h3 hc hne⟩⟩
/-- A board that the law writes over: its rows lie in blocks from n₀ up to n₁, as long as they were; all else is as it was in V. -/
structure Memo (n₀ n₁ : Nat) (V w : World) (vf vs vt : Value) (us : List Value) (d : Board) : Prop where
  amid : Amid n₀ n₁ V w
  fits : w.ownsRow n₀ 22 1 vt d.fits.length us
  rows : RowsLen w n₀ us (d.fits.map List.length)
  slots : ∃ cs, w.ownsRow n₀ 50 3 vs d.slots.length cs
  finds : ∃ xs : List Int, xs.length = d.finds.length ∧ w.ownsRow n₀ 3 1 vf xs.length (ints xs)
theorem Memo.start {n₀ n₁ : Nat} {V : World} {vf vs vt : Value} {d : Board} (h : MadeAt n₀ V vf vs vt d) : ∃ us, Memo n₀ n₁ V V vf vs vt us d := by
  obtain ⟨us, h1, h2, _, _⟩ := h.fits
  exact ⟨us, Amid.refl _ _ _, h1, h2.lens, ⟨_, h.slots⟩, _, rfl, h.finds⟩
theorem own_putAny {w : World} {base g k : Nat} {v : Value} {xs : List Int} {x : Int} (h : w.ownsRow base 3 1 v xs.length (ints xs)) : ∃ ys : List Int, ys.length = xs.length ∧ (w.setCell ⟨g, k, none⟩ (.int .i64 x)).ownsRow base 3 1 v ys.length (ints ys) := by
  have hr : RowsLen w base [v] [xs.length] := ⟨rfl, fun j hj => by
    have : j = 0 := by simpa using hj
    subst this
    exact ⟨v, xs, rfl, rfl, h⟩⟩
  obtain ⟨v', ys, h1, h2, h3⟩ := (hr.put (g := g) (k := k) (x := x)).2 0 (by simp)
  simp at h1
  subst h1
  exact ⟨ys, by simpa using h2, h3⟩
theorem Memo.put {n₀ n₁ g k : Nat} {V w : World} {vf vs vt : Value} {us : List Value} {d : Board} {x : Int} {cs : Array Value} (h : Memo n₀ n₁ V w vf vs vt us d) (hc : w.heap[g]? = some (.cells cs 3 (0, 0))) (hg : n₀ ≤ g ∧ g < n₁) : Memo n₀ n₁ V (w.setCell ⟨g, k, none⟩ (.int .i64 x)) vf vs vt us d := by
  obtain ⟨ss, hs⟩ := h.slots
  obtain ⟨xs, hx, hf⟩ := h.finds
  obtain ⟨ys, hy, hf2⟩ := own_putAny (g := g) (k := k) (x := x) hf
  exact ⟨h.amid.set hg _, own_set h.fits hc (by decide), h.rows.put, ⟨ss, own_set hs hc (by decide)⟩, ys, by rw [hy]; exact hx, hf2⟩
theorem Memo.putS {n₀ n₁ g k n cap : Nat} {V w : World} {vf vt : Value} {us : List Value} {d : Board} {u : Value} (h : Memo n₀ n₁ V w vf (.slice (some ⟨g, 0, none⟩) n cap) vt us d) (hn : n = d.slots.length) (hg : n₀ ≤ g ∧ g < n₁) : Memo n₀ n₁ V (w.setCell ⟨g, k, none⟩ u) vf (.slice (some ⟨g, 0, none⟩) n cap) vt us d := by
  subst hn
  obtain ⟨ss, hs⟩ := h.slots
  obtain ⟨xs, hx, hf⟩ := h.finds
  obtain ⟨cs, hc⟩ := own_heap hs
  exact ⟨h.amid.set hg _, own_set h.fits hc (by decide), h.rows.setT hc (by decide), ⟨_, own_put hs⟩, xs, hx, own_set hf hc (by decide)⟩
end Go.Proofs.Ytpmdjbjnihhjeaa
