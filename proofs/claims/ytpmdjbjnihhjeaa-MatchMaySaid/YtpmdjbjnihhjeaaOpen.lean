/- The arguments of this seat's statements, opened: numbers, lists of numbers, boards. -/
import Derived.Test.YtpmdjbjnihhjeaaBoard
import Derived.Test.YtpmdjbjnihhjeaaRows
import Derived.ProofKit
import Derived.Deep.Slices
import Derived.Deep.Fields
import Derived.Deep.Matrix
import Derived.ChangeSame
import Derived.Lib.SmallJoins
namespace Go.Proofs.Ytpmdjbjnihhjeaa
open Go.ChangeShapes Go.WideShapes Go.ChangeAt Go.RowKit Go.Deep Go.Joins

section
variable {H : Type} {enc : TypeId × Value → H} {w : World} {base : Nat} {held : Bool}

theorem spot_none {a : Addr} {v : Value} (h : w.cell? a = some v) : a = ⟨a.block, a.off, none⟩ := by
  have := World.cell?_spot h
  obtain ⟨b, o, s⟩ := a
  simp at this
  subst this
  rfl
theorem cells3 : Try.prog.cellsOf 3 = 1 := by kernel_rfl
theorem cells22 : Try.prog.cellsOf 22 = 1 := by kernel_rfl
theorem cells23 : Try.prog.cellsOf 23 = 1 := by kernel_rfl
theorem cells24 : Try.prog.cellsOf 24 = 1 := by kernel_rfl
theorem cells26 : Try.prog.cellsOf 26 = 3 := by kernel_rfl
theorem cells50 : Try.prog.cellsOf 50 = 3 := by kernel_rfl

theorem open_intsl {fuel : Nat} {v : Value} {x : DataW H × List MemPlace} (h : DataW.trod enc Try.prog w base (fun _ => true) held fuel 22 [v] = some x) :
    ∃ A c xs, v = .slice A xs.length c ∧ IntsAt w A xs ∧ xs.length ≤ maxLen := by
  rcases open_ints Try.underlying22 Try.underlying3 cells3 h with ⟨hcs, _⟩ | ⟨a, len, cap, zs, hcs, _, hl, hm, hz, _, hcell, _⟩
  · simp at hcs
    exact ⟨none, 0, [], hcs, IntsAt.nil _ _, by simp⟩
  · simp at hcs hz
    refine ⟨some a, cap, zs.take len, ?_, fun h0 => ?_, by rw [List.length_take]; omega⟩
    · rw [hcs, List.length_take, Nat.min_eq_left (by omega)]
    · rw [List.length_take] at h0
      have c0 := hcell 0 (by omega)
      have ha : a = ⟨a.block, a.off, none⟩ := spot_none (by simpa [Addr.add] using c0)
      refine ⟨a.block, a.off, by rw [← ha], fun j hj => ?_⟩
      rw [List.length_take] at hj
      have := hcell j (by omega)
      rw [ha, Addr.add_lit] at this
      rw [this, List.getElem_take]
      simp [show j < zs.length by omega]

theorem open_slice_fields {t e : TypeId} {fs : Array Field} {fuel : Nat} {cs : List Value} {x : DataW H × List MemPlace} {P : Program} {spare : Nat → Bool} (ht : P.underlying t = some (.slice e)) (he : P.underlying e = some (.struct fs))
    (hone : oneCellFields P fs = true) (hC : P.cellsOf e = fs.size) (h : DataW.trod enc P w base spare held fuel t cs = some x) :
    (cs = [.slice none 0 0] ∧ x = (.nil, [])) ∨
    ∃ (a : Addr) (len cap m : Nat), cs = [.slice (some a) len cap] ∧ len ≤ cap ∧ cap ≤ maxLen ∧ m = (if spare a.block then cap else len) ∧
      ∀ i, i < m → ∃ (ys : List (DataW H × List MemPlace)) (n : Nat),
        ∀ (j : Nat) (f : Field), fs[j]? = some f → ∃ (v : Value) (y : DataW H × List MemPlace), w.cell? (a.add (i * fs.size + j)) = some v ∧ ys[j]? = some y ∧ DataW.trod enc P w base spare held n f.type [v] = some y := by
  rcases open_slice ht h with h0 | ⟨a, len, cap, m, n, D, Pl, hcs, hb, hl, hm, hmm, hx, hi⟩
  · exact .inl h0
  · refine .inr ⟨a, len, cap, m, hcs, hl, hm, hmm, fun i him => ?_⟩
    obtain ⟨cs', hc, ht'⟩ := hi i him
    rw [hC] at hc
    obtain ⟨ys, n', hn', hy, hlen, hyl, hf⟩ := DataW.trod_struct he ht'
    obtain ⟨_, hcl, hat⟩ := World.cells?_some hc
    refine ⟨ys, n', fun j f hj => ?_⟩
    obtain ⟨ho, hk⟩ := hone_of hone j f hj
    have hjl : j < fs.size := (Array.getElem?_eq_some_iff.1 hj).1
    have hcell := hat j hjl
    have hv : cs'[j]? = some (cs'[j]'(by omega)) := List.getElem?_eq_getElem (by omega)
    have h1 := hf j f hj
    rw [ho, hk] at h1
    have hone' : (cs'.drop j).take 1 = [cs'[j]'(by omega)] := by
      rw [List.drop_eq_getElem_cons (by omega)]
      rfl
    rw [hone'] at h1
    have hys : ys[j]? = some (ys[j]'(by omega)) := List.getElem?_eq_getElem (by omega)
    refine ⟨_, _, ?_, hys, h1.trans hys⟩
    rw [← Go.Deep.add_add, hcell, hv]

theorem open_slotsl {fuel : Nat} {v : Value} {x : DataW H × List MemPlace} (h : DataW.trod enc Try.prog w base (fun _ => true) held fuel 23 [v] = some x) :
    ∃ A c ss, v = .slice A ss.length c ∧ SlotsAt w A ss ∧ ss.length ≤ maxLen := by
  rcases open_slice_fields Try.underlying23 Try.underlying50 (by kernel_rfl) cells50 h with ⟨hcs, _⟩ | ⟨a, len, cap, m, hcs, hl, hm, hmm, hi⟩
  · simp at hcs
    exact ⟨none, 0, [], hcs, fun h => absurd h (by simp), by simp⟩
  · simp only [if_true] at hmm
    have hall : ∀ i : Fin len, ∃ s : Slot, w.cell? (a.add (i * 3)) = some (.int .i64 s.loss) ∧ w.cell? (a.add (i * 3 + 1)) = some (.int .i64 s.pack) ∧ w.cell? (a.add (i * 3 + 2)) = some (.int .i64 s.pieces) := fun i => by
      obtain ⟨ys, n, hf⟩ := hi i (by rw [hmm]; have := i.2; omega)
      obtain ⟨v0, y0, c0, _, t0⟩ := hf 0 _ rfl
      obtain ⟨v1, y1, c1, _, t1⟩ := hf 1 _ rfl
      obtain ⟨v2, y2, c2, _, t2⟩ := hf 2 _ rfl
      obtain ⟨n0, e0, _, _⟩ := DataW.trod_int Try.underlying3 t0
      obtain ⟨n1, e1, _, _⟩ := DataW.trod_int Try.underlying3 t1
      obtain ⟨n2, e2, _, _⟩ := DataW.trod_int Try.underlying3 t2
      simp at e0 e1 e2
      subst e0 e1 e2
      exact ⟨⟨n0, n1, n2⟩, by simpa using c0, by simpa using c1, by simpa using c2⟩
    obtain ⟨f, hf⟩ := Classical.axiomOfChoice hall
    simp at hcs
    refine ⟨some a, cap, List.ofFn f, by rw [hcs, List.length_ofFn], fun h0 => ?_, by rw [List.length_ofFn]; omega⟩
    rw [List.length_ofFn] at h0
    have ha : a = ⟨a.block, a.off, none⟩ := spot_none (by simpa [Addr.add] using (hf ⟨0, h0⟩).1)
    refine ⟨a.block, a.off, by rw [← ha], fun j hj => ?_⟩
    rw [List.length_ofFn] at hj
    have := hf ⟨j, hj⟩
    rw [ha] at this
    simp only [Addr.add_lit] at this
    simp only [List.getElem_ofFn]
    exact ⟨this.1, by rw [Nat.add_assoc]; exact this.2.1, by rw [Nat.add_assoc]; exact this.2.2⟩

theorem open_fitsl {fuel : Nat} {v : Value} {x : DataW H × List MemPlace} (h : DataW.trod enc Try.prog w base (fun _ => true) held fuel 24 [v] = some x) :
    ∃ A c ff, v = .slice A ff.length c ∧ FitsAt w A ff ∧ ff.length ≤ maxLen ∧ ∀ l ∈ ff, l.length ≤ maxLen := by
  rcases open_int_rows Try.underlying24 Try.underlying22 Try.underlying3 cells22 cells3 h with ⟨hcs, _⟩ | ⟨a, len, cap, A, L, C, Z, hcs, _, hl, hm, _, hr⟩
  · simp at hcs
    exact ⟨none, 0, [], hcs, fun h => absurd h (by simp), by simp, by simp⟩
  · simp at hcs
    have hlen : ∀ r, r < len → ((Z r).take (L r)).length = L r := fun r hr' => by
      obtain ⟨_, h1, _, h2, _⟩ := hr r (by omega)
      rw [List.length_take]; omega
    refine ⟨some a, cap, (List.range len).map fun r => (Z r).take (L r), by rw [hcs]; simp, fun h0 => ?_, by simp; omega, fun l hl' => ?_⟩
    · simp only [List.length_map, List.length_range] at h0
      have ha : a = ⟨a.block, a.off, none⟩ := spot_none (by have := (hr 0 (by omega)).1; simpa [Addr.add] using this)
      refine ⟨a.block, a.off, by rw [← ha], fun j hj => ?_⟩
      simp only [List.length_map, List.length_range] at hj
      obtain ⟨c1, c2, c3, c4, c5, c6, c7⟩ := hr j (by omega)
      rw [ha, Addr.add_lit] at c1
      refine ⟨A j, C j, ?_, fun h1 => ?_⟩
      · simp only [List.getElem_map, List.getElem_range]
        rw [hlen j hj]
        exact c1
      · simp only [List.getElem_map, List.getElem_range] at h1 ⊢
        rw [hlen j hj] at h1
        have hAj : ∃ a', A j = some a' := by
          rcases e : A j with _ | a'
          · have := c6 e; omega
          · exact ⟨a', rfl⟩
        obtain ⟨a', ea⟩ := hAj
        obtain ⟨_, c8⟩ := c7 a' ea
        have ha' : a' = ⟨a'.block, a'.off, none⟩ := spot_none (by have := c8 0 (by omega); simpa [Addr.add] using this)
        refine ⟨a'.block, a'.off, by rw [ea, ← ha'], fun i hi => ?_⟩
        rw [hlen j hj] at hi
        have := c8 i (by omega)
        rw [ha', Addr.add_lit] at this
        rw [this, List.getElem_take]
        simp [show i < (Z j).length by omega]
    · simp only [List.mem_map, List.mem_range] at hl'
      obtain ⟨r, hr', rfl⟩ := hl'
      rw [hlen r hr']
      have := hr r (by omega)
      omega

set_option maxRecDepth 100000 in
/-- A board that came in. -/
theorem open_board {r : Reach} {b0 : Nat} {v : Value} {d : DataW H} {p : List MemPlace} (hv : Value.okWide Try.prog w r b0 26 v) (h : DataW.Trod enc Try.prog w base (fun _ => true) held 26 v d p) :
    ∃ Af As At cf cs ct b, v = .agg #[.slice Af b.finds.length cf, .slice As b.slots.length cs, .slice At b.fits.length ct] ∧ BoardAt w Af As At b ∧ b.finds.length ≤ maxLen ∧ b.slots.length ≤ maxLen ∧ b.fits.length ≤ maxLen ∧ ∀ l ∈ b.fits, l.length ≤ maxLen := by
  obtain ⟨v0, v1, v2, y0, y1, y2, n, rfl, _, _, h0, h1, h2⟩ := open_agg3 Try.underlying26 (by kernel_rfl) cells26 hv h
  obtain ⟨Af, cf, xs, rfl, hf, lf⟩ := open_intsl h0
  obtain ⟨As, cs, ss, rfl, hs, ls⟩ := open_slotsl h1
  obtain ⟨At, ct, ff, rfl, ht, lt, lt2⟩ := open_fitsl h2
  exact ⟨Af, As, At, cf, cs, ct, ⟨xs, ss, ff⟩, rfl, ⟨hf, hs, ht⟩, lf, ls, lt, lt2⟩
/-- A list of numbers that came in. -/
theorem open_list {v : Value} {d : DataW H} {p : List MemPlace} (h : DataW.Trod enc Try.prog w base (fun _ => true) held 22 v d p) (hv : ∃ a n c, v = .slice a n c) : ∃ A c xs, v = .slice A xs.length c ∧ IntsAt w A xs ∧ xs.length ≤ maxLen := by
  obtain ⟨fuel, hf⟩ := h
  obtain ⟨a, n, c, rfl⟩ := hv
  exact open_intsl (by simpa [Value.cells] using hf)
end
end Go.Proofs.Ytpmdjbjnihhjeaa
