/- A board that is tried: how it lies in memory, and worlds in which named blocks alone have been written. No condition. -/
import Derived.Test.YtpmdjbjnihhjeaaKuhn
import Derived.Test.YtpmdjbjnihhjeaaCollect
import Derived.Deep.DeepCutAuto
import Derived.Deep.RegionWith
import Derived.Deep.RegionHeld3
namespace Go.Proofs.Ytpmdjbjnihhjeaa
open Go.RowKit

/-- Of what was there in w, the blocks of X alone may have been written. -/
structure Only (X : List Nat) (w w' : World) : Prop where
  os : w'.os = w.os
  tape : w'.tape = w.tape
  output : w'.output = w.output
  size : w.heap.size ≤ w'.heap.size
  block : ∀ k, k < w.heap.size → k ∉ X → w'.heap[k]? = w.heap[k]?

section
variable {X Y : List Nat} {a b c w w' S : World} {x : Nat}
theorem Only.refl (X : List Nat) (w : World) : Only X w w := ⟨rfl, rfl, rfl, Nat.le_refl _, fun _ _ _ => rfl⟩
theorem Only.trans (h : Only X a b) (k : Only X b c) : Only X a c :=
  ⟨k.os.trans h.os, k.tape.trans h.tape, k.output.trans h.output, Nat.le_trans h.size k.size, fun i hi hx => (k.block i (Nat.lt_of_lt_of_le hi h.size) hx).trans (h.block i hi hx)⟩
theorem Only.wide (h : Only X w w') (hs : ∀ x ∈ X, x ∈ Y) : Only Y w w' := ⟨h.os, h.tape, h.output, h.size, fun i hi hx => h.block i hi fun k => hx (hs i k)⟩
theorem Only.of_below (h : Below w.heap.size w w') : Only X w w' := ⟨h.os, h.tape, h.output, h.size, fun i hi _ => h.block i hi⟩
theorem Only.below {B : Nat} (h : Only X w w') (hX : ∀ x ∈ X, B ≤ x) (hB : B ≤ w.heap.size) : Below B w w' :=
  ⟨h.os, h.tape, h.output, h.size, fun i hi => h.block i (Nat.lt_of_lt_of_le hi hB) fun hx => by have := hX i hx; omega⟩
theorem Only.shrink (h : Only (x :: X) w w') (hx : w.heap.size ≤ x) : Only X w w' :=
  ⟨h.os, h.tape, h.output, h.size, fun i hi hX => h.block i hi fun k => by
    rcases List.mem_cons.1 k with e | k
    · omega
    · exact hX k⟩
theorem Only.after (h : Below w.heap.size w w') (k : Only X w' c) : Only X w c := (Only.of_below h).trans k
theorem Only.then (h : Only X a w) (k : Below w.heap.size w w') : Only X a w' := h.trans (Only.of_below k)
theorem Only.dn (h : Only X a w) (n : Nat) : Only X a (w.drewN n) := h.then (Below.drewN' (Below.refl _ _) n)
theorem Only.alloc (h : Only X a w) (o : Obj) : Only X a (w.alloc o) := h.then ((Below.refl _ _).alloc (Nat.le_refl _) o)
theorem Only.setCell (h : Only X a w) {p : Addr} (hp : p.block ∈ X) (u : Value) : Only X a (w.setCell p u) :=
  h.trans ⟨rfl, rfl, rfl, by simp, fun k _ hk => Below.heap_setCell _ _ _ _ fun e => hk (by rw [e]; exact hp)⟩
theorem Only.cell (h : Only X w w') {p : Addr} (hp : p.block < w.heap.size) (hx : p.block ∉ X) : w'.cell? p = w.cell? p := World.cell?_of_block (w := w) (h.block _ hp hx)
theorem Only.frozen (h : Only X w w') {p : Addr} (hp : p.block < w.heap.size) (hx : p.block ∉ X) : w'.frozen? p = w.frozen? p := World.frozen?_of_block (w := w) (h.block _ hp hx)

/-- S has nothing in the blocks of X. -/
def Void (S : World) (X : List Nat) : Prop := ∀ (p : Addr) v, S.cell? p = some v → p.block ∉ X
theorem Kept.only (hk : Kept S w) (hb : Void S X) (ho : Only X w w') : Kept S w' := fun p v hv =>
  (ho.cell (cell_lt (hk p v hv)) (hb p v hv)).trans (hk p v hv)
theorem Void.less (h : Void S X) (hs : ∀ x ∈ Y, x ∈ X) : Void S Y := fun p v hv hx => h p v hv (hs _ hx)
theorem Void.size (S : World) (hx : ∀ x ∈ X, S.heap.size ≤ x) : Void S X := fun p v hv hX => by have := hx _ hX; have := cell_lt hv; omega

/-- w without what lies in block x. -/
def bare (w : World) (x : Nat) : World := { w with heap := w.heap.setIfInBounds x (.cells #[] 3 (0, 0)) }
theorem bare_cell {p : Addr} (h : p.block ≠ x) : (bare w x).cell? p = w.cell? p := by
  unfold bare World.cell?
  simp only [Array.getElem?_setIfInBounds, if_neg (fun e => h (Eq.symm e))]
theorem bare_none {p : Addr} (h : p.block = x) : (bare w x).cell? p = none := by
  unfold bare World.cell?
  simp only [Array.getElem?_setIfInBounds, h, if_true]
  split
  · split <;> simp_all
  · rfl
theorem bare_kept : Kept (bare w x) w := fun p v hv => by
  by_cases h : p.block = x
  · rw [bare_none h] at hv; cases hv
  · rwa [bare_cell h] at hv
theorem bare_void (h : Void w X) : Void (bare w x) (x :: X) := fun p v hv hx => by
  by_cases e : p.block = x
  · rw [bare_none e] at hv; cases hv
  · rw [bare_cell e] at hv
    rcases List.mem_cons.1 hx with k | k
    · exact e k
    · exact h p v hv k
theorem void_nil : Void w [] := fun _ _ _ h => by cases h
theorem bare_size : (bare w x).heap.size = w.heap.size := by simp [bare]
end

/-- A row of a call's own that it may write: block g holds the list xs from its head on. -/
def RowAt {α : Type} (enc : α → Value) (w : World) (g : Nat) (xs : List α) : Prop := ∀ j (h : j < xs.length), w.cell? ⟨g, j, none⟩ = some (enc xs[j]) ∧ w.frozen? ⟨g, j, none⟩ = false
section
variable {α : Type} {enc : α → Value} {w w' : World} {g : Nat} {xs : List α} {X : List Nat}
theorem RowAt.only (h : RowAt enc w g xs) (ho : Only X w w') (hg : g ∉ X) : RowAt enc w' g xs := fun j hj => by
  have hlt : g < w.heap.size := cell_lt (h j hj).1
  exact ⟨(ho.cell (p := ⟨g, j, none⟩) hlt hg).trans (h j hj).1, (ho.frozen (p := ⟨g, j, none⟩) hlt hg).trans (h j hj).2⟩
theorem RowAt.below (h : RowAt enc w g xs) (ho : Below w.heap.size w w') : RowAt enc w' g xs := h.only (Only.of_below (X := []) ho) (by simp)
theorem RowAt.dn (h : RowAt enc w g xs) {n : Nat} : RowAt enc (w.drewN n) g xs := h
theorem setCell_same' {w : World} {a : Addr} {u v : Value} (h : w.cell? a = some u) : (w.setCell a v).cell? a = some v := World.cell?_setCell_same _ _ _ h
theorem RowAt.set (h : RowAt enc w g xs) (i : Nat) (v : α) : RowAt enc (w.setCell ⟨g, i, none⟩ (enc v)) g (xs.set i v) := fun j hj => by
  simp only [List.length_set] at hj
  refine ⟨?_, by rw [World.frozen?_setCell]; exact (h j hj).2⟩
  by_cases e : i = j
  · subst e
    rw [setCell_same' (h i hj).1]
    simp
  · rw [World.cell?_setCell_other _ _ _ _ (fun k => e (Addr.mk.inj k).2.1), (h j hj).1]
    simp [e]
theorem RowAt.setOther (h : RowAt enc w g xs) {p : Addr} (hp : p.block ≠ g) (v : Value) : RowAt enc (w.setCell p v) g xs := fun j hj =>
  ⟨by rw [World.cell?_setCell_other _ _ _ _ (fun e => hp (by rw [e]))]; exact (h j hj).1, by rw [World.frozen?_setCell]; exact (h j hj).2⟩
theorem RowAt.lt (h : RowAt enc w g xs) (h0 : 0 < xs.length) : g < w.heap.size := cell_lt (h 0 h0).1
end
theorem RowAt.intsAt {w : World} {g : Nat} {xs : List Int} (h : RowAt (Value.int .i64) w g xs) : IntsAt w (some ⟨g, 0, none⟩) xs := fun _ => ⟨g, 0, rfl, fun j hj => by simpa using (h j hj).1⟩
theorem RowAt.of_block {w : World} {g : Nat} {e : TypeId} {xs : List Int} (h : Block w g e (ints xs)) : RowAt (Value.int .i64) w g xs := fun j hj =>
  ⟨by rw [h.cell]; simp [Ytpmdjbjnihhjeaa.ints, hj], by unfold Block at h; simp [World.frozen?, h]⟩
theorem RowAt.of_own {w : World} {base g n cap : Nat} {xs : List Int} (h : w.ownsRow base 3 1 (.slice (some ⟨g, 0, none⟩) n cap) xs.length (Ytpmdjbjnihhjeaa.ints xs)) : RowAt (Value.int .i64) w g xs := fun j hj => by
  rcases h.2 with ⟨h1, _⟩ | ⟨g', cap, cur, h1, _, hg, _, _, hs, ht⟩
  · cases h1
  · cases h1
    refine ⟨?_, by simp [World.frozen?, hg]⟩
    have := h.cells (g := g) rfl j (.int .i64 xs[j]) (by simp [Ytpmdjbjnihhjeaa.ints, hj])
    rwa [add_lit, Nat.zero_add] at this

/-- What a trial holds that is not written: the board's fits, the room; and where it keeps who has which slot. -/
structure TrialAt (S : World) (tb hb : Nat) (fits : List (List Int)) (room : List Int) : Prop where
  findsAt : ∃ A n c, S.cell? ⟨tb, 0, none⟩ = some (.slice A n c)
  slotsAt : ∃ A c, S.cell? ⟨tb, 1, none⟩ = some (.slice A room.length c)
  fitsAt : ∃ A c, S.cell? ⟨tb, 2, none⟩ = some (.slice A fits.length c) ∧ FitsAt S A fits
  roomAt : ∃ A c, S.cell? ⟨tb, 3, none⟩ = some (.slice A room.length c) ∧ IntsAt S A room
  hasAt : ∃ c, S.cell? ⟨tb, 4, none⟩ = some (.slice (some ⟨hb, 0, none⟩) fits.length c)
theorem TrialAt.kept {S w : World} {tb hb : Nat} {fits : List (List Int)} {room : List Int} (h : TrialAt S tb hb fits room) (k : Kept S w) : TrialAt w tb hb fits room := by
  obtain ⟨⟨A1, n1, c1, g1⟩, ⟨A2, c2, g2⟩, ⟨A, c, h1, h2⟩, ⟨B, d, h3, h4⟩, ⟨e, h5⟩⟩ := h
  exact ⟨⟨A1, n1, c1, k _ _ g1⟩, ⟨A2, c2, k _ _ g2⟩, ⟨A, c, k _ _ h1, h2.kept k⟩, ⟨B, d, k _ _ h3, h4.kept k⟩, ⟨e, k _ _ h5⟩⟩
end Go.Proofs.Ytpmdjbjnihhjeaa
