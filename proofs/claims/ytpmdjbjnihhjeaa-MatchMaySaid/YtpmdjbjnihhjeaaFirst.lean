/- The first assignment; Assign. -/
import Derived.Test.YtpmdjbjnihhjeaaLoads
namespace Go.Proofs.Ytpmdjbjnihhjeaa
open Go.RowKit

/-- a comes, up to find k, ahead of c or is as c. -/
def Ahead (k : Nat) (a c : List Int) : Prop := (∀ j, j < k → hasOf c j = hasOf a j) ∨ ∃ i, i < k ∧ (∀ j, j < i → hasOf c j = hasOf a j) ∧ hasOf a i < hasOf c i
/-- The first assignment of a board. -/
structure IsFirst (b : Board) (a : List Int) : Prop where
  is : b.As a
  first : ∀ c, b.As c → Ahead b.fits.length a c

/-- The finds ahead of k are given what out says. -/
structure FirstTo (b : Board) (k : Nat) (cf : List (List Int)) (out : List Int) : Prop where
  len : cf.length = b.fits.length
  lenO : out.length = b.fits.length
  none : ∀ i, i < k → fitOf b.fits i = [] → fitOf cf i = [] ∧ hasOf out i = -1
  one : ∀ i, i < k → fitOf b.fits i ≠ [] → fitOf cf i = [hasOf out i] ∧ hasOf out i ∈ fitOf b.fits i
  rest : ∀ i, k ≤ i → fitOf cf i = fitOf b.fits i
  blank : ∀ i, k ≤ i → hasOf out i = -1
  some : ∃ a, b.As a ∧ ∀ j, j < k → hasOf a j = hasOf out j
  first : ∀ c, b.As c → Ahead k out c

theorem fitOf_set {fits : List (List Int)} {f : Nat} (v : List Int) (h : f < fits.length) (g : Nat) : fitOf (fits.set f v) g = if g = f then v else fitOf fits g := by
  unfold fitOf
  simp only [List.getD_eq_getElem?_getD, List.getElem?_set]
  by_cases e : f = g
  · subst e; simp [h]
  · rw [if_neg e, if_neg (fun h => e h.symm)]
section
variable {b : Board} {k : Nat} {cf : List (List Int)} {out : List Int} {s : Int} {c : List Int}
theorem FirstTo.start (hs : ∃ a, b.As a) : FirstTo b 0 b.fits (List.replicate b.fits.length (-1)) := by
  refine ⟨rfl, by simp, fun i h => by omega, fun i h => by omega, fun i _ => rfl, fun i _ => ?_, ?_, fun c _ => .inl fun j h => by omega⟩
  · unfold hasOf
    simp only [List.getD_eq_getElem?_getD, List.getElem?_replicate]
    split <;> rfl
  · obtain ⟨a, ha⟩ := hs
    exact ⟨a, ha, fun j h => by omega⟩
/-- What the board with find k at s alone can do. -/
theorem FirstTo.try_ (h : FirstTo b k cf out) (hk : k < b.fits.length) (hm : s ∈ fitOf b.fits k) (c : List Int) : Asg (cf.set k [s]) (pieces b.slots) c ↔ b.As c ∧ (∀ j, j < k → hasOf c j = hasOf out j) ∧ hasOf c k = s := by
  have hkc : k < cf.length := by rw [h.len]; exact hk
  have hf : ∀ i, fitOf (cf.set k [s]) i = if i = k then [s] else fitOf cf i := fitOf_set [s] hkc
  have hne : fitOf b.fits k ≠ [] := fun e => by rw [e] at hm; simp at hm
  constructor
  · intro ha
    have hpre : ∀ j, j < k → hasOf c j = hasOf out j := fun j hj => by
      by_cases e : fitOf b.fits j = []
      · have h1 := h.none j hj e
        rw [h1.2]
        exact ha.nobody j (by rw [hf, if_neg (by omega)]; exact h1.1)
      · have h1 := h.one j hj e
        have := ha.fit j (by rw [hf, if_neg (by omega), h1.1]; simp)
        rw [hf, if_neg (by omega), h1.1] at this
        simpa using this
    have hk2 : hasOf c k = s := by
      have := ha.fit k (by rw [hf, if_pos rfl]; simp)
      rw [hf, if_pos rfl] at this
      simpa using this
    refine ⟨⟨by have := ha.len; rw [List.length_set, h.len] at this; exact this, fun i hi => ?_, fun i hi => ?_, ha.loads⟩, hpre, hk2⟩
    · rcases Nat.lt_trichotomy i k with hlt | rfl | hgt
      · rw [hpre i hlt]; exact (h.none i hlt hi).2
      · exact absurd hi hne
      · exact ha.nobody i (by rw [hf, if_neg (by omega), h.rest i (by omega)]; exact hi)
    · rcases Nat.lt_trichotomy i k with hlt | rfl | hgt
      · rw [hpre i hlt]; exact (h.one i hlt hi).2
      · rw [hk2]; exact hm
      · have := ha.fit i (by rw [hf, if_neg (by omega), h.rest i (by omega)]; exact hi)
        rw [hf, if_neg (by omega), h.rest i (by omega)] at this
        exact this
  · rintro ⟨ha, hpre, hk2⟩
    refine ⟨by rw [List.length_set, h.len]; exact ha.len, fun i hi => ?_, fun i hi => ?_, ha.loads⟩
    · rw [hf] at hi
      split at hi
      · simp at hi
      · rcases Nat.lt_or_ge i k with hlt | hge
        · by_cases e : fitOf b.fits i = []
          · exact ha.nobody i e
          · rw [(h.one i hlt e).1] at hi; simp at hi
        · rw [h.rest i hge] at hi; exact ha.nobody i hi
    · rw [hf] at hi ⊢
      split
      · rename_i e; subst e; rw [hk2]; simp
      · rename_i e
        rw [if_neg e] at hi
        rcases Nat.lt_or_ge i k with hlt | hge
        · by_cases e2 : fitOf b.fits i = []
          · rw [(h.none i hlt e2).1] at hi; exact absurd rfl hi
          · rw [(h.one i hlt e2).1, hpre i hlt]; simp
        · rw [h.rest i hge] at hi ⊢; exact ha.fit i hi
/-- A find that fits none is passed by. -/
theorem FirstTo.skip (h : FirstTo b k cf out) (he : fitOf b.fits k = []) : FirstTo b (k + 1) cf out := by
  have hb := h.blank k (Nat.le_refl _)
  refine ⟨h.len, h.lenO, fun i hi e => ?_, fun i hi e => ?_, fun i hi => h.rest i (by omega), fun i hi => h.blank i (by omega), ?_, fun c hc => ?_⟩
  · rcases Nat.lt_or_ge i k with hlt | hge
    · exact h.none i hlt e
    · obtain rfl : i = k := by omega
      exact ⟨by rw [h.rest i (Nat.le_refl _)]; exact e, hb⟩
  · rcases Nat.lt_or_ge i k with hlt | hge
    · exact h.one i hlt e
    · obtain rfl : i = k := by omega
      exact absurd he e
  · obtain ⟨a, ha, hp⟩ := h.some
    refine ⟨a, ha, fun j hj => ?_⟩
    rcases Nat.lt_or_ge j k with hlt | hge
    · exact hp j hlt
    · obtain rfl : j = k := by omega
      rw [hb]; exact ha.nobody j he
  · rcases h.first c hc with h1 | ⟨i, h1, h2, h3⟩
    · refine .inl fun j hj => ?_
      rcases Nat.lt_or_ge j k with hlt | hge
      · exact h1 j hlt
      · obtain rfl : j = k := by omega
        rw [hb]; exact hc.nobody j he
    · exact .inr ⟨i, by omega, h2, h3⟩
/-- A find takes the first slot with which there is still an assignment. -/
theorem FirstTo.take (h : FirstTo b k cf out) (hk : k < b.fits.length) {j : Nat} (hj : j < (fitOf b.fits k).length) (hs : (fitOf b.fits k)[j] = s) (hr : (fitOf b.fits k).Pairwise (· < ·)) (hno : ∀ c, b.As c → (∀ i, i < k → hasOf c i = hasOf out i) → hasOf c k ∉ (fitOf b.fits k).take j)
    (hex : ∃ a, b.As a ∧ (∀ i, i < k → hasOf a i = hasOf out i) ∧ hasOf a k = s) : FirstTo b (k + 1) (cf.set k [s]) (out.set k s) := by
  have hkc : k < cf.length := by rw [h.len]; exact hk
  have hko : k < out.length := by rw [h.lenO]; exact hk
  have hf : ∀ i, fitOf (cf.set k [s]) i = if i = k then [s] else fitOf cf i := fitOf_set [s] hkc
  have ho : ∀ i, hasOf (out.set k s) i = if i = k then s else hasOf out i := hasOf_set s hko
  have hm : s ∈ fitOf b.fits k := by rw [← hs]; exact List.getElem_mem hj
  have hne : fitOf b.fits k ≠ [] := fun e => by rw [e] at hm; simp at hm
  refine ⟨by rw [List.length_set]; exact h.len, by rw [List.length_set]; exact h.lenO, fun i hi e => ?_, fun i hi e => ?_, fun i hi => ?_, fun i hi => ?_, ?_, fun c hc => ?_⟩
  · have : i ≠ k := fun e2 => hne (e2 ▸ e)
    rw [hf, ho, if_neg this, if_neg this]
    exact h.none i (by omega) e
  · rw [hf, ho]
    split
    · rename_i e2; subst e2; exact ⟨rfl, hm⟩
    · exact h.one i (by omega) e
  · rw [hf, if_neg (by omega)]; exact h.rest i (by omega)
  · rw [ho, if_neg (by omega)]; exact h.blank i (by omega)
  · obtain ⟨a, ha, hp, hk2⟩ := hex
    refine ⟨a, ha, fun i hi => ?_⟩
    rw [ho]
    split
    · rename_i e; rw [e]; exact hk2
    · exact hp i (by omega)
  · rcases h.first c hc with h1 | ⟨i, h1, h2, h3⟩
    · by_cases e : hasOf c k = s
      · refine .inl fun i hi => ?_
        rw [ho]
        split
        · rename_i e2; rw [e2]; exact e
        · exact h1 i (by omega)
      · refine .inr ⟨k, by omega, fun i hi => by rw [ho, if_neg (by omega)]; exact h1 i hi, ?_⟩
        rw [ho, if_pos rfl]
        have hmem := hc.fit k hne
        obtain ⟨x, hx, hxe⟩ := List.getElem_of_mem hmem
        have hnot := hno c hc h1
        have hjx : ¬ x < j := fun hlt => hnot (by
          rw [← hxe, show (fitOf b.fits k)[x] = ((fitOf b.fits k).take j)[x]'(by simp; omega) from by simp]
          exact List.getElem_mem _)
        have hne2 : x ≠ j := fun e2 => e (by subst e2; rw [← hxe]; exact hs)
        have := List.pairwise_iff_getElem.1 hr j x hj hx (by omega)
        rw [← hxe, ← hs]
        exact this
    · refine .inr ⟨i, by omega, fun x hx => ?_, ?_⟩
      · rw [ho, if_neg (by omega)]; exact h2 x hx
      · rw [ho, if_neg (by omega)]; exact h3
/-- Where no slot is left, the find fits none. -/
theorem FirstTo.none_left (h : FirstTo b k cf out) (hno : ∀ c, b.As c → (∀ i, i < k → hasOf c i = hasOf out i) → hasOf c k ∉ fitOf b.fits k) : fitOf b.fits k = [] := by
  refine Classical.byContradiction fun hne => ?_
  obtain ⟨a, ha, hp⟩ := h.some
  exact hno a ha hp (ha.fit k hne)
theorem FirstTo.done (h : FirstTo b k cf out) (hk : b.fits.length ≤ k) : IsFirst b out := by
  obtain ⟨a, ha, hp⟩ := h.some
  have heq : a = out := by
    refine List.ext_getElem (by rw [ha.len, h.lenO]) fun i h1 h2 => ?_
    have := hp i (by rw [ha.len] at h1; omega)
    rwa [hasOf_lt h1, hasOf_lt h2] at this
  refine ⟨heq ▸ ha, fun c hc => ?_⟩
  rcases h.first c hc with h1 | ⟨i, h1, h2, h3⟩
  · exact .inl fun j hj => h1 j (by omega)
  · by_cases hi : i < b.fits.length
    · exact .inr ⟨i, hi, h2, h3⟩
    · rw [hasOf_ge (a := c) (by rw [hc.len]; omega), hasOf_ge (a := out) (by rw [h.lenO]; omega)] at h3
      omega
theorem FirstTo.fine (h : FirstTo b k cf out) (hb : b.Fine) {n : Nat} (hn : n < b.fits.length) (v : List Int) (hv : ∀ s ∈ v, s ∈ fitOf b.fits n) (hl : v.length ≤ 1000) : (Board.mk b.finds b.slots (cf.set n v)).Fine := by
  have hsub : ∀ i, ∀ s ∈ fitOf cf i, s ∈ fitOf b.fits i := fun i s hs => by
    rcases Nat.lt_or_ge i k with hlt | hge
    · by_cases e : fitOf b.fits i = []
      · rw [(h.none i hlt e).1] at hs; simp at hs
      · rw [(h.one i hlt e).1] at hs
        rw [List.mem_singleton] at hs
        rw [hs]; exact (h.one i hlt e).2
    · rw [h.rest i hge] at hs; exact hs
  have hlen : ∀ i, (fitOf cf i).length ≤ 1000 := fun i => by
    rcases Nat.lt_or_ge i k with hlt | hge
    · by_cases e : fitOf b.fits i = []
      · rw [(h.none i hlt e).1]; simp
      · rw [(h.one i hlt e).1]; simp
    · rw [h.rest i hge]
      by_cases hi : i < b.fits.length
      · rw [fitOf_lt hi]; exact hb.lens _ (List.getElem_mem hi)
      · rw [fitOf_ge (by omega)]; simp
  have hnc : n < cf.length := by rw [h.len]; exact hn
  refine ⟨hb.finds, hb.slots, by show (cf.set n v).length = _; rw [List.length_set, h.len]; exact hb.fits, fun l hl2 => ?_, fun f s hs => ?_, hb.room⟩
  · obtain ⟨i, hi, rfl⟩ := List.getElem_of_mem hl2
    have := fitOf_lt hi
    rw [← this, fitOf_set v hnc]
    split
    · exact hl
    · exact hlen i
  · have hs' : s ∈ fitOf (cf.set n v) f := hs
    rw [fitOf_set v hnc] at hs'
    split at hs'
    · exact hb.inside n s (hv s hs')
    · exact hb.inside f s (hsub f s hs')
end
end Go.Proofs.Ytpmdjbjnihhjeaa
