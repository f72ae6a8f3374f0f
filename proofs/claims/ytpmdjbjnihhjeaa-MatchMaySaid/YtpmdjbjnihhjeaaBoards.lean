/- The chapter's example boards: what they are, in plain words. -/
import Derived.Test.YtpmdjbjnihhjeaaAssign
namespace Go.Proofs.Ytpmdjbjnihhjeaa
open Go.RowKit

def exSlots (p : Int) : List Slot := [⟨1, 1, p⟩, ⟨1, 2, 1⟩, ⟨1, 3, 1⟩]
def exBoard (p : Int) : Board := ⟨[10, 20, 30], exSlots p, [[0], [0, 1], [0, 1, 2]]⟩
def exHall : Board := ⟨[10, 20, 30], exSlots 1, [[0], [0], [0, 1]]⟩

theorem ex_slotsOk {p : Int} (h1 : 1 ≤ p) (h2 : p ≤ 20) : SlotsOk (exSlots p) := by
  intro j hj _
  match j, hj with
  | 0, _ => simp [Slot.ok, exSlots]; omega
  | 1, _ => simp [Slot.ok, Slot.lt, exSlots]
  | 2, _ => simp [Slot.ok, Slot.lt, exSlots]
  | (n + 3), h => exact absurd h (by simp [exSlots])
theorem ex_good {p : Int} (h1 : 1 ≤ p) (h2 : p ≤ 20) : (exBoard p).Good := by
  refine ⟨rise_iff.2 ⟨by simp [exBoard], by intro x hx; simp [exBoard] at hx; omega⟩, ex_slotsOk h1 h2, rfl, fun l hl => ?_⟩
  simp only [exBoard, List.mem_cons, List.not_mem_nil, or_false] at hl
  rcases hl with rfl | rfl | rfl <;> exact rise_iff.2 ⟨by simp, by intro x hx; simp at hx; simp [exBoard, exSlots]; omega⟩
theorem exHall_good : exHall.Good := by
  refine ⟨rise_iff.2 ⟨by simp [exHall], by intro x hx; simp [exHall] at hx; omega⟩, ex_slotsOk (by omega) (by omega), rfl, fun l hl => ?_⟩
  simp only [exHall, List.mem_cons, List.not_mem_nil, or_false] at hl
  rcases hl with rfl | rfl | rfl <;> exact rise_iff.2 ⟨by simp, by intro x hx; simp at hx; simp [exHall, exSlots]; omega⟩
theorem ex_check {p : Int} (h1 : 1 ≤ p) (h2 : p ≤ 20) : (exBoard p).check = 0 := Board.check_ok (by simp [exBoard]) (by simp [exBoard, exSlots]) (ex_good h1 h2)
theorem exHall_check : exHall.check = 0 := Board.check_ok (by simp [exHall]) (by simp [exHall, exSlots]) exHall_good
theorem ex_small (p : Int) : (exBoard p).small := ⟨by simp [exBoard], by simp [exBoard, exSlots], by simp [exBoard], by intro l hl; simp [exBoard] at hl; rcases hl with rfl | rfl | rfl <;> simp⟩
theorem exHall_small : exHall.small := ⟨by simp [exHall], by simp [exHall, exSlots], by simp [exHall], by intro l hl; simp [exHall] at hl; rcases hl with rfl | rfl <;> simp⟩

theorem len_three {a : List Int} (h : a.length = 3) : ∃ x y z, a = [x, y, z] := by
  match a, h with
  | [x, y, z], _ => exact ⟨x, y, z, rfl⟩
theorem ex_as_of {p : Int} {a : List Int} (h : (exBoard p).As a) : ∃ y z, a = [0, y, z] ∧ (y = 0 ∨ y = 1) ∧ (z = 0 ∨ z = 1 ∨ z = 2) ∧ loadOf a 0 ≤ p ∧ loadOf a 1 ≤ 1 := by
  obtain ⟨x, y, z, rfl⟩ := len_three h.len
  have h0 := h.fit 0 (by simp [exBoard, fitOf])
  have h1 := h.fit 1 (by simp [exBoard, fitOf])
  have h2 := h.fit 2 (by simp [exBoard, fitOf])
  have l0 := h.loads 0 (by omega) (by simp [exBoard, exSlots, pieces])
  have l1 := h.loads 1 (by omega) (by simp [exBoard, exSlots, pieces])
  simp [exBoard, fitOf, hasOf] at h0 h1 h2
  simp [exBoard, exSlots, pieces, roomOf] at l0 l1
  subst h0
  exact ⟨y, z, rfl, h1, h2, l0, l1⟩
theorem ex_as_mk {p : Int} {y z : Int} (h1 : y = 0 ∨ y = 1) (h2 : z = 0 ∨ z = 1 ∨ z = 2) (l0 : loadOf [0, y, z] 0 ≤ p) (l1 : loadOf [0, y, z] 1 ≤ 1) : (exBoard p).As [0, y, z] := by
  refine ⟨rfl, fun f hf => ?_, fun f hf => ?_, fun s h0 hs => ?_⟩
  · match f with
    | 0 => simp [exBoard, fitOf] at hf
    | 1 => simp [exBoard, fitOf] at hf
    | 2 => simp [exBoard, fitOf] at hf
    | (n + 3) => simp [hasOf]
  · match f with
    | 0 => simp [exBoard, fitOf, hasOf]
    | 1 => simpa [exBoard, fitOf, hasOf] using h1
    | 2 => simpa [exBoard, fitOf, hasOf] using h2
    | (n + 3) => simp [exBoard, fitOf] at hf
  · have : s = 0 ∨ s = 1 ∨ s = 2 := by simp [exBoard, exSlots, pieces] at hs; omega
    rcases this with rfl | rfl | rfl
    · simpa [exBoard, exSlots, pieces, roomOf] using l0
    · simpa [exBoard, exSlots, pieces, roomOf] using l1
    · have : loadOf [0, y, z] 2 ≤ 1 := by
        rcases h1 with rfl | rfl <;> rcases h2 with rfl | rfl | rfl <;> simp [loadOf]
      simpa [exBoard, exSlots, pieces, roomOf] using this
theorem ex1_as {a : List Int} : (exBoard 1).As a ↔ a = [0, 1, 2] := by
  constructor
  · intro h
    obtain ⟨y, z, rfl, h1, h2, l0, l1⟩ := ex_as_of h
    rcases h1 with rfl | rfl <;> rcases h2 with rfl | rfl | rfl <;> simp [loadOf] at l0 l1 ⊢
  · rintro rfl
    exact ex_as_mk (.inr rfl) (.inr (.inr rfl)) (by simp [loadOf]) (by simp [loadOf])
theorem ex2_as {a : List Int} : (exBoard 2).As a ↔ a = [0, 0, 1] ∨ a = [0, 0, 2] ∨ a = [0, 1, 0] ∨ a = [0, 1, 2] := by
  constructor
  · intro h
    obtain ⟨y, z, rfl, h1, h2, l0, l1⟩ := ex_as_of h
    rcases h1 with rfl | rfl <;> rcases h2 with rfl | rfl | rfl <;> simp [loadOf] at l0 l1 ⊢
  · rintro (rfl | rfl | rfl | rfl)
    · exact ex_as_mk (.inl rfl) (.inr (.inl rfl)) (by simp [loadOf]) (by simp [loadOf])
    · exact ex_as_mk (.inl rfl) (.inr (.inr rfl)) (by simp [loadOf]) (by simp [loadOf])
    · exact ex_as_mk (.inr rfl) (.inl rfl) (by simp [loadOf]) (by simp [loadOf])
    · exact ex_as_mk (.inr rfl) (.inr (.inr rfl)) (by simp [loadOf]) (by simp [loadOf])
theorem exHall_none : ¬ ∃ a, exHall.As a := by
  rintro ⟨a, h⟩
  obtain ⟨x, y, z, rfl⟩ := len_three h.len
  have h0 := h.fit 0 (by simp [exHall, fitOf])
  have h1 := h.fit 1 (by simp [exHall, fitOf])
  have l0 := h.loads 0 (by omega) (by simp [exHall, exSlots, pieces])
  simp [exHall, fitOf, hasOf] at h0 h1
  subst h0 h1
  simp [exHall, exSlots, pieces, roomOf, loadOf] at l0
  rw [List.count_cons] at l0
  split at l0 <;> simp at l0 <;> omega
theorem ex1_first {a : List Int} (h : IsFirst (exBoard 1) a) : a = [0, 1, 2] := ex1_as.1 h.is
theorem can_iff {b : Board} {f : Nat} {s : Int} : canB b.fits (pieces b.slots) f s = true ↔ ∃ a, b.As a ∧ hasOf a f = s := canB_true
theorem ex1_must : (exBoard 1).must = [0, 1, 2] := by
  have hc : ∀ f s, canB (exBoard 1).fits (pieces (exBoard 1).slots) f s = true ↔ hasOf [0, 1, 2] f = s := fun f s => by
    rw [can_iff]
    constructor
    · rintro ⟨a, ha, h⟩; rw [ex1_as.1 ha] at h; exact h
    · intro h; exact ⟨_, ex1_as.2 rfl, h⟩
  have hb : ∀ f s, canB (exBoard 1).fits (pieces (exBoard 1).slots) f s = decide (hasOf [0, 1, 2] f = s) := fun f s => by
    rw [Bool.eq_iff_iff, hc, decide_eq_true_iff]
  have c0 : chancesOf (exBoard 1).fits (pieces (exBoard 1).slots) 0 = [0] := by unfold chancesOf; rw [funext (hb 0)]; decide
  have c1 : chancesOf (exBoard 1).fits (pieces (exBoard 1).slots) 1 = [1] := by unfold chancesOf; rw [funext (hb 1)]; decide
  have c2 : chancesOf (exBoard 1).fits (pieces (exBoard 1).slots) 2 = [2] := by unfold chancesOf; rw [funext (hb 2)]; decide
  unfold Board.must Board.chances chancesTo
  show ((List.range 3).map _).map lone = _
  simp only [List.range_succ, List.range_zero, List.nil_append, List.cons_append, List.map_cons, List.map_nil, c0, c1, c2]
  rfl
theorem ex2_must : (exBoard 2).must = [0, -1, -1] := by
  have hb : ∀ f s, canB (exBoard 2).fits (pieces (exBoard 2).slots) f s = decide (hasOf [0, 0, 1] f = s ∨ hasOf [0, 0, 2] f = s ∨ hasOf [0, 1, 0] f = s ∨ hasOf [0, 1, 2] f = s) := fun f s => by
    rw [Bool.eq_iff_iff, can_iff, decide_eq_true_iff]
    constructor
    · rintro ⟨a, ha, h⟩
      rcases ex2_as.1 ha with rfl | rfl | rfl | rfl
      · exact .inl h
      · exact .inr (.inl h)
      · exact .inr (.inr (.inl h))
      · exact .inr (.inr (.inr h))
    · rintro (h | h | h | h)
      · exact ⟨_, ex2_as.2 (.inl rfl), h⟩
      · exact ⟨_, ex2_as.2 (.inr (.inl rfl)), h⟩
      · exact ⟨_, ex2_as.2 (.inr (.inr (.inl rfl))), h⟩
      · exact ⟨_, ex2_as.2 (.inr (.inr (.inr rfl))), h⟩
  have c0 : chancesOf (exBoard 2).fits (pieces (exBoard 2).slots) 0 = [0] := by unfold chancesOf; rw [funext (hb 0)]; decide
  have c1 : chancesOf (exBoard 2).fits (pieces (exBoard 2).slots) 1 = [0, 1] := by unfold chancesOf; rw [funext (hb 1)]; decide
  have c2 : chancesOf (exBoard 2).fits (pieces (exBoard 2).slots) 2 = [0, 1, 2] := by unfold chancesOf; rw [funext (hb 2)]; decide
  unfold Board.must Board.chances chancesTo
  show ((List.range 3).map _).map lone = _
  simp only [List.range_succ, List.range_zero, List.nil_append, List.cons_append, List.map_cons, List.map_nil, c0, c1, c2]
  rfl
theorem ex1_ask : askOf (exBoard 1) 2 1 false false = 0 := by
  unfold askOf
  rw [if_pos (ex_check (by omega) (by omega))]
  simp [inB, exBoard, exSlots]
theorem ex2_ask : askOf (exBoard 2) 0 0 true false = 0 := by
  unfold askOf
  rw [if_pos (ex_check (by omega) (by omega))]
  simp [inB, exBoard, exSlots]
theorem ex2_load {low high : Int} (h : LoadIs (exBoard 2) 0 low high) : low = 1 ∧ high = 2 := by
  have h1 := (h.all _ (ex2_as.2 (.inr (.inr (.inr rfl))))).1
  have h2 := (h.all _ (ex2_as.2 (.inl rfl))).2
  have hr : ∀ a, (exBoard 2).As a → 1 ≤ loadOf a 0 ∧ loadOf a 0 ≤ 2 := fun a ha => by
    rcases ex2_as.1 ha with rfl | rfl | rfl | rfl <;> simp [loadOf]
  obtain ⟨a, ha, e1⟩ := h.lowIs
  obtain ⟨c, hc, e2⟩ := h.highIs
  have := hr a ha
  have := hr c hc
  simp [loadOf] at h1 h2
  omega
theorem ex1_denial {H : List Int} (h : Denial (exBoard 1) 2 1 H) : H = [0, 1] := by
  obtain ⟨hp, hb⟩ := rise_iff.1 h.short.rise
  have hout := h.out
  have hfew := h.short.few
  have hb' : ∀ x ∈ H, x = 0 ∨ x = 1 := fun x hx => by
    have h1 := hb x hx
    have h2 : x ≠ 2 := fun e => hout (by rw [e] at hx; exact hx)
    simp [exBoard] at h1
    omega
  match H, hp, hb', hfew with
  | [], _, _, hf => simp [nearRoom, sumTo, less, pieces, exBoard, exSlots, Near] at hf
  | [x], _, hb', hf =>
    rcases hb' x (by simp) with rfl | rfl
    · exact absurd hf (by decide)
    · exact absurd hf (by decide)
  | [x, y], hp, hb', _ =>
    have h1 := hb' x (by simp)
    have h2 := hb' y (by simp)
    simp at hp
    have e1 : x = 0 := by omega
    have e2 : y = 1 := by omega
    rw [e1, e2]
  | x :: y :: z :: t, hp, hb', _ =>
    have h1 := hb' x (by simp)
    have h2 := hb' y (by simp)
    have h3 := hb' z (by simp)
    simp at hp
    omega
theorem exHall_long {H : List Int} (h : Short exHall.fits (pieces exHall.slots) H) : 2 ≤ H.length := by
  obtain ⟨hp, hb⟩ := rise_iff.1 h.rise
  have hfew := h.few
  match H, hb, hfew with
  | [], _, hf => exact absurd hf (by decide)
  | [x], hb, hf =>
    have h1 := hb x (by simp)
    simp [exHall] at h1
    have : x = 0 ∨ x = 1 ∨ x = 2 := by omega
    rcases this with rfl | rfl | rfl
    · exact absurd hf (by decide)
    · exact absurd hf (by decide)
    · exact absurd hf (by decide)
  | x :: y :: t, _, _ => simp
end Go.Proofs.Ytpmdjbjnihhjeaa
