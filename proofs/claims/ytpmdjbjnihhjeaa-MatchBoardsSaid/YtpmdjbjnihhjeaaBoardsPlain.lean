/- Boards less a find, with a slot barred or fixed: what their assignments are. -/
import Derived.Test.YtpmdjbjnihhjeaaFitted
import Derived.Test.YtpmdjbjnihhjeaaEvery
namespace Go.Proofs.Ytpmdjbjnihhjeaa
open Go.RowKit
set_option linter.unusedSimpArgs false

theorem Rise.sub {l l' : List Int} {a b : Int} (h : Rise l a b) (hs : l'.Sublist l) : Rise l' a b :=
  rise_iff.2 ⟨(rise_iff.1 h).1.sublist hs, fun x hx => (rise_iff.1 h).2 x (hs.subset hx)⟩
theorem rise_one {s n : Int} (h0 : 0 ≤ s) (h1 : s ≤ n) : Rise [s] 0 n := rise_iff.2 ⟨by simp, by simpa using ⟨h0, h1⟩⟩
theorem drop_sub (L : List Int) (s : Int) : (drop L s).Sublist L := List.filter_sublist
theorem Board.check_lim {b : Board} (h : b.check = 0) : ¬ 60 < b.finds.length ∧ ¬ 200 < b.slots.length := by
  constructor
  · intro k; rw [Board.check_two (.inl k)] at h; omega
  · intro k; rw [Board.check_two (.inr k)] at h; omega
section
variable {b : Board} {f : Nat} {L : List Int} {a : List Int} {s : Int}
theorem Board.without_small (h : b.small) : (b.without f).small :=
  ⟨Nat.le_trans (List.length_eraseIdx_le _ _) h.1, h.2.1, Nat.le_trans (List.length_eraseIdx_le _ _) h.2.2.1, fun l hl => h.2.2.2 l (List.mem_of_mem_eraseIdx hl)⟩
theorem Board.refit_small (h : b.small) (hL : L.length ≤ 60) : (b.refit f L).small := by
  refine ⟨h.1, h.2.1, by simpa [Board.refit] using h.2.2.1, fun l hl => ?_⟩
  rcases List.mem_or_eq_of_mem_set hl with h1 | rfl
  · exact h.2.2.2 l h1
  · exact hL
theorem Board.without_check (h : b.check = 0) : (b.without f).check = 0 := by
  have hg := Board.check_good h
  have hl := Board.check_lim h
  have h1 : (b.without f).finds.length ≤ b.finds.length := List.length_eraseIdx_le _ _
  refine Board.check_ok (by omega) hl.2 ⟨hg.finds.sub (List.eraseIdx_sublist _ _), hg.slots, ?_, fun l hl => hg.fits l (List.mem_of_mem_eraseIdx hl)⟩
  simp only [Board.without, List.length_eraseIdx, hg.len]
theorem Board.refit_check (h : b.check = 0) (hL : Rise L 0 (b.slots.length - 1)) : (b.refit f L).check = 0 := by
  have hg := Board.check_good h
  have hl := Board.check_lim h
  refine Board.check_ok hl.1 hl.2 ⟨hg.finds, hg.slots, by simpa [Board.refit] using hg.len, fun l hl => ?_⟩
  rcases List.mem_or_eq_of_mem_set hl with h1 | rfl
  · exact hg.fits l h1
  · exact hL
theorem fitOf_erase (ff : List (List Int)) (f i : Nat) : fitOf (ff.eraseIdx f) i = fitOf ff (if i < f then i else i + 1) := by
  unfold fitOf
  rw [List.getD_eq_getElem?_getD, List.getD_eq_getElem?_getD, List.getElem?_eraseIdx]
  split <;> rfl
theorem hasOf_erase (a : List Int) (f i : Nat) : hasOf (a.eraseIdx f) i = hasOf a (if i < f then i else i + 1) := by
  unfold hasOf
  rw [List.getD_eq_getElem?_getD, List.getD_eq_getElem?_getD, List.getElem?_eraseIdx]
  split <;> rfl
theorem fitOf_put (ff : List (List Int)) (f i : Nat) (L : List Int) (hf : f < ff.length) : fitOf (ff.set f L) i = if i = f then L else fitOf ff i := by
  unfold fitOf
  rw [List.getD_eq_getElem?_getD, List.getD_eq_getElem?_getD]
  by_cases e : i = f
  · subst e
    rw [if_pos rfl, List.getElem?_set_self hf]; rfl
  · rw [if_neg e, List.getElem?_set_ne (Ne.symm e)]
theorem Board.As.without (h : b.As a) : (b.without f).As (a.eraseIdx f) := by
  refine ⟨?_, fun i hi => ?_, fun i hi => ?_, fun s h0 h1 => ?_⟩
  · simp only [Board.without, List.length_eraseIdx, h.len]
  · simp only [Board.without, fitOf_erase, hasOf_erase] at hi ⊢
    exact h.nobody _ hi
  · simp only [Board.without, fitOf_erase, hasOf_erase] at hi ⊢
    exact h.fit _ hi
  · have h2 := h.loads s h0 h1
    have h3 : (a.eraseIdx f).count s ≤ a.count s := (List.eraseIdx_sublist _ _).count_le _
    unfold loadOf at h2 ⊢
    exact Int.le_trans (by omega) h2
theorem chance_without {i : Nat} (h : s ∈ chancesOf b.fits (pieces b.slots) (if i < f then i else i + 1)) : s ∈ chancesOf (b.without f).fits (pieces (b.without f).slots) i := by
  unfold chancesOf at h ⊢
  rw [List.mem_filter] at h ⊢
  obtain ⟨h1, h2⟩ := h
  obtain ⟨a, ha, e⟩ := canB_true.1 h2
  exact ⟨by simp only [Board.without, fitOf_erase]; exact h1, canB_true.2 ⟨_, Board.As.without (f := f) ha, by rw [hasOf_erase]; exact e⟩⟩
theorem Board.As.refit (hf : f < b.fits.length) (hs : ∀ x ∈ L, x ∈ fitOf b.fits f) (hne : L ≠ []) (h : (b.refit f L).As a) : b.As a := by
  have hl := h.len
  simp only [Board.refit, List.length_set] at hl
  refine ⟨hl, fun i hi => ?_, fun i hi => ?_, h.loads⟩
  · by_cases e : i = f
    · subst e
      obtain ⟨x, hx⟩ := List.exists_mem_of_ne_nil L hne
      have := hs x hx
      rw [hi] at this
      simp at this
    · refine h.nobody i ?_
      simp only [Board.refit, fitOf_put _ _ _ _ hf, if_neg e]
      exact hi
  · by_cases e : i = f
    · subst e
      have := h.fit i (by simp only [Board.refit, fitOf_put _ _ _ _ hf, if_pos]; exact hne)
      simp only [Board.refit, fitOf_put _ _ _ _ hf, if_pos] at this
      exact hs _ this
    · have := h.fit i (by simp only [Board.refit, fitOf_put _ _ _ _ hf, if_neg e]; exact hi)
      simpa only [Board.refit, fitOf_put _ _ _ _ hf, if_neg e] using this
theorem chance_refit {i : Nat} (hf : f < b.fits.length) (hs : ∀ x ∈ L, x ∈ fitOf b.fits f) (hne : L ≠ []) (h : s ∈ chancesOf (b.refit f L).fits (pieces (b.refit f L).slots) i) : s ∈ chancesOf b.fits (pieces b.slots) i := by
  unfold chancesOf at h ⊢
  rw [List.mem_filter] at h ⊢
  obtain ⟨h1, h2⟩ := h
  obtain ⟨a, ha, e⟩ := canB_true.1 h2
  refine ⟨?_, canB_true.2 ⟨a, Board.As.refit hf hs hne ha, e⟩⟩
  simp only [Board.refit, fitOf_put _ _ _ _ hf] at h1
  split at h1
  · subst_vars; exact hs _ h1
  · exact h1
theorem fixed_iff (hf : f < b.fits.length) (hs : s ∈ fitOf b.fits f) : (∃ a, (b.refit f [s]).As a) ↔ canB b.fits (pieces b.slots) f s = true := by
  rw [canB_true]
  constructor
  · rintro ⟨a, ha⟩
    refine ⟨a, Board.As.refit hf (by simpa using hs) (by simp) ha, ?_⟩
    have := ha.fit f (by simp [Board.refit, fitOf_put _ _ _ _ hf])
    simpa [Board.refit, fitOf_put _ _ _ _ hf] using this
  · rintro ⟨a, ha, e⟩
    refine ⟨a, by simpa [Board.refit] using ha.len, fun i hi => ?_, fun i hi => ?_, ha.loads⟩
    · simp only [Board.refit, fitOf_put _ _ _ _ hf] at hi
      split at hi
      · simp at hi
      · exact ha.nobody i hi
    · simp only [Board.refit, fitOf_put _ _ _ _ hf] at hi ⊢
      split
      · subst_vars; simp
      · rename_i h1
        rw [if_neg h1] at hi
        exact ha.fit i hi
end
end Go.Proofs.Ytpmdjbjnihhjeaa
