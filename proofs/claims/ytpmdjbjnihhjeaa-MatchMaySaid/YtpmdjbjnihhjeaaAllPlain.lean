/- All assignments of a board, in order (plain; for MatchMay and MatchAll). -/
import Derived.Test.YtpmdjbjnihhjeaaFirst
namespace Go.Proofs.Ytpmdjbjnihhjeaa
open Go.RowKit

/-- All lists that extend a beginning: one slot of each row that is left, as far as there is room. -/
def allTo (room : List Int) : List (List Int) → List Int → List Int → List (List Int)
  | [], begin, _ => [begin]
  | l :: rest, begin, load => if l = [] then allTo room rest (begin ++ [-1]) load else l.flatMap fun s => if roomOf room s ≤ roomOf load s then [] else allTo room rest (begin ++ [s]) (load.set s.toNat (roomOf load s + 1))
theorem allTo_nil (room begin load : List Int) : allTo room [] begin load = [begin] := rfl
theorem allTo_none (room begin load : List Int) (rest : List (List Int)) : allTo room ([] :: rest) begin load = allTo room rest (begin ++ [-1]) load := by simp [allTo]
theorem allTo_some {room begin load l : List Int} {rest : List (List Int)} (h : l ≠ []) : allTo room (l :: rest) begin load = l.flatMap fun s => if roomOf room s ≤ roomOf load s then [] else allTo room rest (begin ++ [s]) (load.set s.toNat (roomOf load s + 1)) := by simp [allTo, h]
/-- Each list has one number for each row. -/
theorem allTo_len {room : List Int} : ∀ {ff : List (List Int)} {begin load a : List Int}, a ∈ allTo room ff begin load → a.length = begin.length + ff.length
  | [], begin, load, a, h => by
    rw [allTo_nil, List.mem_singleton] at h
    subst h
    simp
  | l :: rest, begin, load, a, h => by
    by_cases hl : l = []
    · subst hl
      rw [allTo_none] at h
      have := allTo_len h
      simp at this ⊢
      omega
    · rw [allTo_some hl, List.mem_flatMap] at h
      obtain ⟨s, _, h⟩ := h
      split at h
      · simp at h
      · have := allTo_len h
        simp at this ⊢
        omega
theorem allTo_pre {room : List Int} : ∀ {ff : List (List Int)} {begin load a : List Int}, a ∈ allTo room ff begin load → ∃ t, a = begin ++ t
  | [], begin, load, a, h => by
    rw [allTo_nil, List.mem_singleton] at h
    exact ⟨[], by rw [h]; simp⟩
  | l :: rest, begin, load, a, h => by
    by_cases hl : l = []
    · subst hl
      rw [allTo_none] at h
      obtain ⟨t, rfl⟩ := allTo_pre h
      exact ⟨-1 :: t, by simp⟩
    · rw [allTo_some hl, List.mem_flatMap] at h
      obtain ⟨s, _, h⟩ := h
      split at h
      · simp at h
      · obtain ⟨t, rfl⟩ := allTo_pre h
        exact ⟨s :: t, by simp⟩
theorem flatMap_le {α β : Type} (f : α → List β) (n : Nat) : ∀ (l : List α), (∀ x ∈ l, (f x).length ≤ n) → (l.flatMap f).length ≤ l.length * n
  | [], _ => by simp
  | x :: l, h => by
    have h1 := h x (by simp)
    have h2 := flatMap_le f n l (fun y hy => h y (by simp [hy]))
    simp only [List.flatMap_cons, List.length_append, List.length_cons]
    rw [Nat.add_mul]; omega
theorem allTo_count {room : List Int} : ∀ {ff : List (List Int)} {begin load : List Int}, (∀ l ∈ ff, l.length ≤ 5) → (allTo room ff begin load).length ≤ 5 ^ ff.length
  | [], begin, load, h => by simp [allTo_nil]
  | l :: rest, begin, load, h => by
    have hr : ∀ l ∈ rest, l.length ≤ 5 := fun l hl => h l (by simp [hl])
    have hl5 := h l (by simp)
    by_cases hl : l = []
    · subst hl
      rw [allTo_none]
      have := @allTo_count room rest (begin ++ [-1]) load hr
      rw [List.length_cons, Nat.pow_succ]; omega
    · rw [allTo_some hl, List.length_cons, Nat.pow_succ, Nat.mul_comm]
      refine Nat.le_trans (flatMap_le _ (5 ^ rest.length) l fun s _ => ?_) (Nat.mul_le_mul_right _ hl5)
      split
      · simp
      · exact allTo_count hr

/-- t has one number for each row: of the row, or -1. -/
def Ext : List (List Int) → List Int → Prop
  | [], [] => True
  | l :: ff, x :: t => (if l = [] then x = -1 else x ∈ l) ∧ Ext ff t
  | _, _ => False
theorem ext_iff : ∀ {ff : List (List Int)} {t : List Int}, Ext ff t ↔ t.length = ff.length ∧ (∀ f, fitOf ff f = [] → hasOf t f = -1) ∧ ∀ f, fitOf ff f ≠ [] → hasOf t f ∈ fitOf ff f
  | [], [] => by simp [Ext, fitOf, hasOf]
  | [], x :: t => by simp [Ext]
  | l :: ff, [] => by simp [Ext]
  | l :: ff, x :: t => by
    have h0 : fitOf (l :: ff) 0 = l := by simp [fitOf]
    have g0 : hasOf (x :: t) 0 = x := by simp [hasOf]
    have h1 : ∀ f, fitOf (l :: ff) (f + 1) = fitOf ff f := fun f => by simp [fitOf]
    have g1 : ∀ f, hasOf (x :: t) (f + 1) = hasOf t f := fun f => by simp [hasOf]
    show (if l = [] then x = -1 else x ∈ l) ∧ Ext ff t ↔ _
    rw [ext_iff]
    constructor
    · rintro ⟨hx, hlen, hn, hf⟩
      refine ⟨by simp [hlen], fun f => ?_, fun f => ?_⟩
      · cases f with
        | zero => rw [h0, g0]; intro e; rwa [if_pos e] at hx
        | succ f => rw [h1, g1]; exact hn f
      · cases f with
        | zero => rw [h0, g0]; intro e; rwa [if_neg e] at hx
        | succ f => rw [h1, g1]; exact hf f
    · rintro ⟨hlen, hn, hf⟩
      refine ⟨?_, by simpa using hlen, fun f => ?_, fun f => ?_⟩
      · have a := hn 0
        have b := hf 0
        rw [h0, g0] at a b
        split
        · exact a ‹_›
        · exact b ‹_›
      · have := hn (f + 1); rwa [h1, g1] at this
      · have := hf (f + 1); rwa [h1, g1] at this

theorem loadOf_append (a b : List Int) (s : Int) : loadOf (a ++ b) s = loadOf a s + loadOf b s := by simp [loadOf, List.count_append]
theorem loadOf_one (x s : Int) : loadOf [x] s = if x = s then 1 else 0 := by
  unfold loadOf
  rw [List.count_singleton]
  by_cases h : x = s
  · simp [h]
  · simp [h]
theorem roomOf_put {load : List Int} {s : Int} (v : Int) (h0 : 0 ≤ s) (h1 : s < load.length) {x : Int} (hx : 0 ≤ x) : roomOf (load.set s.toNat v) x = if x = s then v else roomOf load x := by
  unfold roomOf
  rw [if_pos hx, if_pos hx]
  simp only [List.getD_eq_getElem?_getD, List.getElem?_set]
  by_cases e : x = s
  · subst e; simp [show x.toNat < load.length by omega]
  · rw [if_neg (by omega), if_neg e]
/-- load is how many finds of a beginning each slot has; no slot has too many. -/
structure Tally (room begin load : List Int) : Prop where
  len : load.length = room.length
  is : ∀ s : Int, 0 ≤ s → s < room.length → roomOf load s = loadOf begin s
  le : ∀ s : Int, 0 ≤ s → s < room.length → loadOf begin s ≤ roomOf room s
theorem Tally.none {room begin load : List Int} (h : Tally room begin load) : Tally room (begin ++ [-1]) load := by
  have e : ∀ s : Int, 0 ≤ s → loadOf (begin ++ [-1]) s = loadOf begin s := fun s hs => by
    rw [loadOf_append, loadOf_one, if_neg (by omega)]; omega
  exact ⟨h.len, fun s h0 h1 => by rw [e s h0]; exact h.is s h0 h1, fun s h0 h1 => by rw [e s h0]; exact h.le s h0 h1⟩
theorem Tally.put {room begin load : List Int} (h : Tally room begin load) {s : Int} (h0 : 0 ≤ s) (h1 : s < room.length) (hlt : roomOf load s < roomOf room s) : Tally room (begin ++ [s]) (load.set s.toNat (roomOf load s + 1)) := by
  refine ⟨by rw [List.length_set]; exact h.len, fun x hx0 hx1 => ?_, fun x hx0 hx1 => ?_⟩
  · rw [roomOf_put _ h0 (by rw [h.len]; exact h1) hx0, loadOf_append, loadOf_one]
    have := h.is x hx0 hx1
    by_cases e : x = s
    · subst e; rw [if_pos rfl, if_pos rfl]; omega
    · rw [if_neg e, if_neg (fun e2 => e e2.symm)]; omega
  · rw [loadOf_append, loadOf_one]
    have := h.is x hx0 hx1
    have h2 := h.le x hx0 hx1
    by_cases e : s = x
    · subst e; rw [if_pos rfl]; omega
    · rw [if_neg e]; omega
theorem allTo_mem {room : List Int} {a : List Int} : ∀ {ff : List (List Int)} {begin load : List Int}, (∀ l ∈ ff, ∀ s ∈ l, 0 ≤ s ∧ s < room.length) → Tally room begin load →
    (a ∈ allTo room ff begin load ↔ ∃ t, a = begin ++ t ∧ Ext ff t ∧ ∀ s : Int, 0 ≤ s → s < room.length → loadOf a s ≤ roomOf room s)
  | [], begin, load, _, hT => by
    rw [allTo_nil, List.mem_singleton]
    constructor
    · rintro rfl
      exact ⟨[], by simp, trivial, hT.le⟩
    · rintro ⟨t, rfl, ht, _⟩
      cases t with
      | nil => simp
      | cons x t => exact absurd ht (by simp [Ext])
  | l :: rest, begin, load, hw, hT => by
    have hr : ∀ l ∈ rest, ∀ s ∈ l, 0 ≤ s ∧ s < (room.length : Int) := fun l hl => hw l (by simp [hl])
    by_cases hl : l = []
    · subst hl
      rw [allTo_none, allTo_mem hr hT.none]
      constructor
      · rintro ⟨t, rfl, ht, h⟩
        exact ⟨-1 :: t, by simp, ⟨by simp, ht⟩, h⟩
      · rintro ⟨t, rfl, ht, h⟩
        cases t with
        | nil => exact absurd ht (by simp [Ext])
        | cons x t =>
          obtain ⟨hx, ht⟩ := ht
          rw [if_pos rfl] at hx
          subst hx
          exact ⟨t, by simp, ht, h⟩
    · rw [allTo_some hl, List.mem_flatMap]
      constructor
      · rintro ⟨s, hs, h⟩
        obtain ⟨h0, h1⟩ := hw l (by simp) s hs
        split at h
        · simp at h
        · rw [allTo_mem hr (hT.put h0 h1 (by omega))] at h
          obtain ⟨t, rfl, ht, h⟩ := h
          exact ⟨s :: t, by simp, ⟨by rw [if_neg hl]; exact hs, ht⟩, h⟩
      · rintro ⟨t, rfl, ht, h⟩
        cases t with
        | nil => exact absurd ht (by simp [Ext])
        | cons s t =>
          obtain ⟨hx, ht⟩ := ht
          rw [if_neg hl] at hx
          obtain ⟨h0, h1⟩ := hw l (by simp) s hx
          refine ⟨s, hx, ?_⟩
          have h2 := h s h0 h1
          have h3 := hT.is s h0 h1
          rw [loadOf_append, show s :: t = [s] ++ t from rfl, loadOf_append, loadOf_one, if_pos rfl] at h2
          have h4 := loadOf_nonneg t s
          rw [if_neg (by omega), allTo_mem hr (hT.put h0 h1 (by omega))]
          exact ⟨t, by simp, ht, h⟩

/-- a comes ahead of c: at the first place at which they part it has less. -/
def Before (a c : List Int) : Prop := ∃ i, (∀ j, j < i → hasOf c j = hasOf a j) ∧ hasOf a i < hasOf c i
theorem allTo_sorted {room : List Int} : ∀ {ff : List (List Int)} {begin load : List Int}, (∀ l ∈ ff, l.Pairwise (· < ·)) → (allTo room ff begin load).Pairwise Before
  | [], begin, load, _ => by simp [allTo_nil]
  | l :: rest, begin, load, h => by
    have hr : ∀ l ∈ rest, l.Pairwise (· < ·) := fun l hl => h l (by simp [hl])
    by_cases hl : l = []
    · subst hl
      rw [allTo_none]
      exact allTo_sorted hr
    · rw [allTo_some hl, List.pairwise_flatMap]
      refine ⟨fun s _ => ?_, (h l (by simp)).imp fun {s s'} hlt x hx y hy => ?_⟩
      · split
        · exact List.Pairwise.nil
        · exact allTo_sorted hr
      · split at hx
        · simp at hx
        split at hy
        · simp at hy
        obtain ⟨t, rfl⟩ := allTo_pre hx
        obtain ⟨u, rfl⟩ := allTo_pre hy
        refine ⟨begin.length, fun j hj => ?_, ?_⟩
        · unfold hasOf
          simp [List.getD_eq_getElem?_getD, List.getElem?_append, hj]
        · unfold hasOf
          simpa [List.getD_eq_getElem?_getD, List.getElem?_append] using hlt


/-- All assignments of a board. -/
def Board.all (b : Board) : List (List Int) := allTo (pieces b.slots) b.fits [] (List.replicate b.slots.length 0)
theorem Tally.start {room : List Int} (hr : ∀ s : Int, 0 ≤ s → s < room.length → 0 ≤ roomOf room s) : Tally room [] (List.replicate room.length 0) := by
  refine ⟨by simp, fun s h0 h1 => ?_, fun s h0 h1 => by simpa [loadOf] using hr s h0 h1⟩
  unfold roomOf
  rw [if_pos h0]
  simp [List.getD_eq_getElem?_getD, loadOf, List.getElem?_replicate]
  split <;> rfl
theorem Board.all_as {b : Board} (hg : b.Good) {a : List Int} : a ∈ b.all ↔ b.As a := by
  have hw : ∀ l ∈ b.fits, ∀ s ∈ l, 0 ≤ s ∧ s < ((pieces b.slots).length : Int) := fun l hl s hs => by
    obtain ⟨i, hi, rfl⟩ := List.getElem_of_mem hl
    have := hg.inside i s (by rw [fitOf_lt hi]; exact hs)
    rw [pieces_length]; rw [pieces_length] at this; exact this
  unfold Board.all
  rw [← pieces_length b.slots, allTo_mem hw (Tally.start fun s h0 h1 => by have := hg.rooms s h0 h1; omega)]
  constructor
  · rintro ⟨t, rfl, ht, h⟩
    obtain ⟨h1, h2, h3⟩ := ext_iff.1 ht
    exact ⟨h1, h2, h3, h⟩
  · intro h
    exact ⟨a, by simp, ext_iff.2 ⟨h.len, h.nobody, h.fit⟩, h.loads⟩
theorem Board.all_sorted {b : Board} (hg : b.Good) : b.all.Pairwise Before := allTo_sorted fun l hl => (rise_iff.1 (hg.fits l hl)).1
theorem Board.all_first {b : Board} (hg : b.Good) {a : List Int} (ha : IsFirst b a) (h : 0 < b.all.length) : b.all[0] = a := by
  obtain ⟨k, hk, e⟩ := List.getElem_of_mem (Board.all_as hg |>.2 ha.is)
  rcases Nat.eq_zero_or_pos k with rfl | hpos
  · exact e
  · exfalso
    obtain ⟨i, h1, h2⟩ := List.pairwise_iff_getElem.1 (Board.all_sorted hg) 0 k h hk hpos
    have h0 : b.As b.all[0] := (Board.all_as hg).1 (List.getElem_mem h)
    rw [e] at h1 h2
    rcases ha.first _ h0 with h3 | ⟨x, hx, h3, h4⟩
    · by_cases hi : i < b.fits.length
      · have := h3 i hi; omega
      · rw [hasOf_ge (a := b.all[0]) (by rw [h0.len]; omega), hasOf_ge (a := a) (by rw [ha.is.len]; omega)] at h2
        omega
    · rcases Nat.lt_trichotomy i x with hlt | rfl | hgt
      · have := h3 i hlt; omega
      · omega
      · have := h1 x hgt; omega
theorem Board.all_some {b : Board} (hg : b.Good) : 0 < b.all.length ↔ ∃ a, b.As a := by
  constructor
  · intro h
    exact ⟨_, (Board.all_as hg).1 (List.getElem_mem h)⟩
  · rintro ⟨a, ha⟩
    exact List.length_pos_of_mem ((Board.all_as hg).2 ha)

/-- Of the first k slots those that some list gives find i. -/
def givenTo (ls : List (List Int)) (i k : Nat) : List Int := (nats (List.range k)).filter fun s => ls.any fun a => hasOf a i == s
theorem nats_succ (k : Nat) : nats (List.range (k + 1)) = nats (List.range k) ++ [(k : Int)] := by simp [nats, List.range_succ]
theorem givenTo_succ (ls : List (List Int)) (i k : Nat) : givenTo ls i (k + 1) = givenTo ls i k ++ if (ls.any fun a => hasOf a i == (k : Int)) then [(k : Int)] else [] := by
  unfold givenTo
  rw [nats_succ, List.filter_append]
  simp [List.filter_cons]
theorem givenTo_len (ls : List (List Int)) (i k : Nat) : (givenTo ls i k).length ≤ k := by
  unfold givenTo
  have := List.length_filter_le (fun s => ls.any fun a => hasOf a i == s) (nats (List.range k))
  simpa [nats] using this
theorem nats_pairwise (k : Nat) : (nats (List.range k)).Pairwise (· < ·) := by
  unfold nats
  rw [List.pairwise_map]
  exact List.pairwise_lt_range.imp fun h => by omega
theorem sorted_ext {a c : List Int} (ha : a.Pairwise (· < ·)) (hc : c.Pairwise (· < ·)) (h : ∀ x, x ∈ a ↔ x ∈ c) : a = c := by
  induction a generalizing c with
  | nil =>
    cases c with
    | nil => rfl
    | cons y c => exact absurd ((h y).2 (by simp)) (by simp)
  | cons x a ih =>
    cases c with
    | nil => exact absurd ((h x).1 (by simp)) (by simp)
    | cons y c =>
      rw [List.pairwise_cons] at ha hc
      have e : x = y := by
        rcases List.mem_cons.1 ((h x).1 (by simp)) with e | hm
        · exact e
        · rcases List.mem_cons.1 ((h y).2 (by simp)) with e | hm2
          · exact e.symm
          · have := hc.1 x hm
            have := ha.1 y hm2
            omega
      subst e
      congr 1
      refine ih ha.2 hc.2 fun z => ⟨fun hz => ?_, fun hz => ?_⟩
      · rcases List.mem_cons.1 ((h z).1 (by simp [hz])) with e | hm
        · have := ha.1 z hz; omega
        · exact hm
      · rcases List.mem_cons.1 ((h z).2 (by simp [hz])) with e | hm
        · have := hc.1 z hz; omega
        · exact hm
theorem given_chances {b : Board} (hg : b.Good) {i : Nat} : givenTo b.all i b.slots.length = chancesOf b.fits (pieces b.slots) i := by
  have hp : (fitOf b.fits i).Pairwise (· < ·) := by
    by_cases hi : i < b.fits.length
    · rw [fitOf_lt hi]; exact (rise_iff.1 (hg.fits _ (List.getElem_mem hi))).1
    · rw [fitOf_ge (by omega)]; exact List.Pairwise.nil
  refine sorted_ext ((nats_pairwise _).sublist List.filter_sublist) (hp.sublist List.filter_sublist) fun x => ?_
  unfold givenTo chancesOf
  rw [List.mem_filter, List.mem_filter, List.any_eq_true, canB_true]
  constructor
  · rintro ⟨hx, a, ha, he⟩
    have ha := (Board.all_as hg).1 ha
    have he : hasOf a i = x := by simpa using he
    have h0 : 0 ≤ x := by
      unfold nats at hx
      obtain ⟨n, _, rfl⟩ := List.mem_map.1 hx
      omega
    refine ⟨?_, a, ha, he⟩
    by_cases hf : fitOf b.fits i = []
    · have := ha.nobody i hf; omega
    · rw [← he]; exact ha.fit i hf
  · rintro ⟨hx, a, ha, he⟩
    have := hg.inside i x hx
    rw [pieces_length] at this
    refine ⟨?_, a, (Board.all_as hg).2 ha, by simpa using he⟩
    unfold nats
    rw [List.mem_map]
    exact ⟨x.toNat, by simp; omega, by omega⟩

/-- The least and the greatest number that the first k lists give slot s. -/
structure SpanTo (ls : List (List Int)) (s : Int) (k : Nat) (lo hi : Int) : Prop where
  zero : k = 0 → lo = 0
  low : ∀ j (h : j < ls.length), j < k → lo ≤ loadOf ls[j] s
  lowIs : 0 < k → ∃ j, ∃ h : j < ls.length, j < k ∧ lo = loadOf ls[j] s
  high : ∀ j (h : j < ls.length), j < k → loadOf ls[j] s ≤ hi
  highIs : hi = 0 ∨ ∃ j, ∃ h : j < ls.length, j < k ∧ hi = loadOf ls[j] s
  pos : 0 ≤ hi
theorem SpanTo.start (ls : List (List Int)) (s : Int) : SpanTo ls s 0 0 0 := ⟨fun _ => rfl, fun j _ h => by omega, fun h => by omega, fun j _ h => by omega, .inl rfl, by omega⟩
theorem SpanTo.step {ls : List (List Int)} {s : Int} {k : Nat} {low high : Int} (h : SpanTo ls s k low high) (hk : k < ls.length) :
    SpanTo ls s (k + 1) (if k = 0 ∨ loadOf ls[k] s < low then loadOf ls[k] s else low) (max high (loadOf ls[k] s)) := by
  have hp := h.pos
  refine ⟨fun e => by omega, fun j hj hjk => ?_, fun _ => ?_, fun j hj hjk => ?_, ?_, by omega⟩
  · rcases Nat.lt_or_ge j k with hlt | hge
    · have := h.low j hj hlt
      split <;> omega
    · obtain rfl : j = k := by omega
      split <;> omega
  · split
    · exact ⟨k, hk, by omega, rfl⟩
    · obtain ⟨j, hj, h1, h2⟩ := h.lowIs (by omega)
      exact ⟨j, hj, by omega, h2⟩
  · rcases Nat.lt_or_ge j k with hlt | hge
    · have := h.high j hj hlt; omega
    · obtain rfl : j = k := by omega
      omega
  · by_cases hm : loadOf ls[k] s ≤ high
    · rw [Int.max_eq_left hm]
      rcases h.highIs with h1 | ⟨j, hj, h1, h2⟩
      · exact .inl h1
      · exact .inr ⟨j, hj, by omega, h2⟩
    · rw [Int.max_eq_right (by omega)]
      exact .inr ⟨k, hk, by omega, rfl⟩
end Go.Proofs.Ytpmdjbjnihhjeaa
