/- Plain words on finds, slots and assignments, without a program: sums, what a search along other finds does, and that a short list of finds shows that there is no assignment. No condition. -/
import Derived.Test.YtpmdjbjnihhjeaaHelpA
namespace Go.Proofs.Ytpmdjbjnihhjeaa

def sumTo (g : Nat → Int) : Nat → Int
  | 0 => 0
  | n + 1 => sumTo g n + g n
theorem sumTo_le {g h : Nat → Int} : ∀ {n : Nat}, (∀ i, i < n → g i ≤ h i) → sumTo g n ≤ sumTo h n
  | 0, _ => Int.le_refl _
  | n + 1, H => Int.add_le_add (sumTo_le fun i hi => H i (by omega)) (H n (by omega))
theorem sumTo_congr {g h : Nat → Int} : ∀ {n : Nat}, (∀ i, i < n → g i = h i) → sumTo g n = sumTo h n
  | 0, _ => rfl
  | n + 1, H => by unfold sumTo; rw [sumTo_congr fun i hi => H i (by omega), H n (by omega)]
theorem sumTo_add (g h : Nat → Int) : ∀ n : Nat, sumTo (fun i => g i + h i) n = sumTo g n + sumTo h n
  | 0 => rfl
  | n + 1 => by unfold sumTo; rw [sumTo_add g h n]; omega
theorem sumTo_zero : ∀ n : Nat, sumTo (fun _ => 0) n = 0
  | 0 => rfl
  | n + 1 => by unfold sumTo; rw [sumTo_zero n]; rfl
theorem sumTo_one (x : Int) (S : Int → Bool) : ∀ n : Nat, sumTo (fun s => if S (s : Int) then (if x = (s : Int) then 1 else 0) else 0) n = if 0 ≤ x ∧ x < n ∧ S x = true then 1 else 0
  | 0 => by unfold sumTo; rw [if_neg (by omega)]
  | n + 1 => by
    unfold sumTo
    rw [sumTo_one x S n]
    by_cases h : x = (n : Int)
    · subst h
      rw [if_neg (by omega)]
      by_cases hs : S (n : Int) = true
      · rw [if_pos hs, if_pos rfl, if_pos ⟨by omega, by omega, hs⟩]; rfl
      · rw [if_neg hs, if_neg (fun h => hs h.2.2)]; rfl
    · rw [show (if S (n : Int) = true then (if x = (n : Int) then (1 : Int) else 0) else 0) = 0 from by rw [if_neg h]; simp]
      by_cases hs : 0 ≤ x ∧ x < n ∧ S x = true
      · rw [if_pos hs, if_pos ⟨hs.1, by omega, hs.2.2⟩]; rfl
      · rw [if_neg hs, if_neg (fun (k : 0 ≤ x ∧ x < ((n + 1 : Nat) : Int) ∧ S x = true) => hs ⟨k.1, by omega, k.2.2⟩)]; rfl
theorem sumTo_shift (g : Nat → Int) : ∀ n : Nat, sumTo g (n + 1) = g 0 + sumTo (fun i => g (i + 1)) n
  | 0 => by simp [sumTo]
  | n + 1 => by
    rw [sumTo, sumTo_shift g n, sumTo]
    omega
theorem sumTo_nonneg {g : Nat → Int} {n : Nat} (h : ∀ i, i < n → 0 ≤ g i) : 0 ≤ sumTo g n := by
  have := sumTo_le (g := fun _ => 0) h
  rwa [sumTo_zero] at this

def hasOf (a : List Int) (f : Nat) : Int := a.getD f (-1)
def fitOf (fits : List (List Int)) (f : Nat) : List Int := fits.getD f []
def roomOf (room : List Int) (s : Int) : Int := if 0 ≤ s then room.getD s.toNat 0 else 0
theorem hasOf_lt {a : List Int} {f : Nat} (h : f < a.length) : hasOf a f = a[f] := by unfold hasOf; simp [h]
theorem hasOf_ge {a : List Int} {f : Nat} (h : a.length ≤ f) : hasOf a f = -1 := by unfold hasOf; simp [h]
theorem fitOf_lt {a : List (List Int)} {f : Nat} (h : f < a.length) : fitOf a f = a[f] := by unfold fitOf; simp [h]
theorem roomOf_lt {a : List Int} {s : Nat} (h : s < a.length) : roomOf a (s : Int) = a[s] := by
  unfold roomOf; rw [if_pos (by omega), Int.toNat_natCast]; simp [h]
theorem hasOf_set {a : List Int} {f : Nat} (v : Int) (h : f < a.length) (g : Nat) : hasOf (a.set f v) g = if g = f then v else hasOf a g := by
  unfold hasOf
  simp only [List.getD_eq_getElem?_getD, List.getElem?_set]
  by_cases e : f = g
  · subst e; simp [h]
  · rw [if_neg e, if_neg (fun h => e h.symm)]

/-- How many finds have a slot. -/
def loadOf (a : List Int) (s : Int) : Int := (a.count s : Int)
theorem loadOf_nonneg (a : List Int) (s : Int) : 0 ≤ loadOf a s := by unfold loadOf; omega
theorem loadOf_sum (a : List Int) (s : Int) : loadOf a s = sumTo (fun i => if hasOf a i = s then 1 else 0) a.length := by
  unfold loadOf
  induction a with
  | nil => rfl
  | cons x xs ih =>
    rw [List.length_cons, sumTo_shift, List.count_cons]
    have h1 : ∀ i, hasOf (x :: xs) (i + 1) = hasOf xs i := fun i => by simp [hasOf]
    simp only [h1]
    rw [← ih]
    have h0 : hasOf (x :: xs) 0 = x := rfl
    rw [h0]
    by_cases hx : x = s
    · simp [hx]; omega
    · simp [hx]
/-- All that have a slot of a set, counted find by find and slot by slot. -/
theorem sum_swap (a : List Int) (S : Int → Bool) (m : Nat) :
    sumTo (fun s => if S (s : Int) then loadOf a (s : Int) else 0) m = sumTo (fun i => if 0 ≤ hasOf a i ∧ hasOf a i < m ∧ S (hasOf a i) = true then 1 else 0) a.length := by
  induction a with
  | nil =>
    rw [List.length_nil, sumTo]
    rw [sumTo_congr (h := fun _ => 0)]
    · exact sumTo_zero m
    · intro i _; simp [loadOf]
  | cons x xs ih =>
    rw [List.length_cons, sumTo_shift]
    have h1 : ∀ i, hasOf (x :: xs) (i + 1) = hasOf xs i := fun i => by simp [hasOf]
    simp only [h1]
    rw [← ih, ← sumTo_one (hasOf (x :: xs) 0) S m, ← sumTo_add]
    refine sumTo_congr fun s _ => ?_
    have h0 : hasOf (x :: xs) 0 = x := rfl
    rw [h0]
    unfold loadOf
    rw [List.count_cons]
    split
    · by_cases hx : x = (s : Int)
      · simp [hx]; omega
      · simp [hx]
    · rfl

theorem loadOf_set_le {a : List Int} {f : Nat} (v s : Int) (h : f < a.length) : loadOf (a.set f v) s ≤ loadOf a s + if v = s then 1 else 0 := by
  unfold loadOf
  rw [List.count_set h]
  by_cases hv : v = s
  · simp [hv]
  · simp [hv]
theorem loadOf_set {a : List Int} {f : Nat} (v s : Int) (h : f < a.length) : loadOf (a.set f v) s = loadOf a s - (if hasOf a f = s then 1 else 0) + if v = s then 1 else 0 := by
  have hp : hasOf a f = s → 0 < a.count s := fun e => by
    rw [hasOf_lt h] at e
    rw [← e]
    exact List.count_pos_iff.2 (List.getElem_mem h)
  unfold loadOf
  rw [List.count_set h]
  rw [hasOf_lt h] at hp ⊢
  by_cases hv : v = s <;> by_cases hw : a[f] = s
  all_goals
    simp only [hv, hw, beq_iff_eq, if_true, if_false]
    try have := hp hw
    omega

/-- Fewer finds have the slot, if none has come to it and one has left it. -/
theorem load_less {a b : List Int} {s : Int} {g : Nat} (hl : a.length = b.length) (hg : g < a.length) (h1 : hasOf a g = s) (h2 : hasOf b g ≠ s) (h : ∀ i, hasOf b i = s → hasOf a i = s) : loadOf b s + 1 ≤ loadOf a s := by
  rw [loadOf_sum, loadOf_sum, ← hl]
  have hone : sumTo (fun i => if ((fun _ => true) (i : Int)) = true then (if (g : Int) = (i : Int) then (1 : Int) else 0) else 0) a.length = 1 :=
    (sumTo_one g (fun _ => true) a.length).trans (if_pos ⟨by omega, by omega, rfl⟩)
  have hle : sumTo (fun i => (if hasOf b i = s then (1 : Int) else 0) + (if ((fun _ => true) (i : Int)) = true then (if (g : Int) = (i : Int) then (1 : Int) else 0) else 0)) a.length ≤ sumTo (fun i => if hasOf a i = s then 1 else 0) a.length := by
    refine sumTo_le fun i _ => ?_
    simp only [if_true]
    by_cases hi : g = i
    · subst hi; rw [if_neg h2, if_pos h1]; simp
    · rw [if_neg (show ¬ (g : Int) = i from by omega)]
      by_cases hb : hasOf b i = s
      · rw [if_pos hb, if_pos (h i hb)]; omega
      · rw [if_neg hb]; split <;> omega
  rw [sumTo_add, hone] at hle
  exact hle
theorem load_pos {a : List Int} {s : Int} {g : Nat} (hg : g < a.length) (h1 : hasOf a g = s) : 1 ≤ loadOf a s := by
  unfold loadOf
  have : 0 < a.count s := List.count_pos_iff.2 (by rw [← h1, hasOf_lt hg]; exact List.getElem_mem hg)
  omega

/-- A slot is marked. -/
def seenOf (seen : List Bool) (s : Int) : Prop := 0 ≤ s ∧ seen[s.toNat]? = some true
theorem seenOf_set {seen : List Bool} {s : Nat} (h : s < seen.length) (x : Int) : seenOf (seen.set s true) x ↔ x = (s : Int) ∨ seenOf seen x := by
  unfold seenOf
  rw [List.getElem?_set]
  constructor
  · rintro ⟨h0, h1⟩
    split at h1
    · exact .inl (by omega)
    · exact .inr ⟨h0, h1⟩
  · rintro (rfl | ⟨h0, h1⟩)
    · exact ⟨by omega, by simp [h]⟩
    · refine ⟨h0, ?_⟩
      split
      · simp_all
      · exact h1

structure SeekIn (fits : List (List Int)) (room : List Int) (seen : List Bool) (has : List Int) : Prop where
  lenH : has.length = fits.length
  lenS : seen.length = room.length
  wf : ∀ f, ∀ s ∈ fitOf fits f, 0 ≤ s ∧ s < room.length
  loads : ∀ s : Int, 0 ≤ s → s < room.length → loadOf has s ≤ roomOf room s
  vals : ∀ f, hasOf has f = -1 ∨ hasOf has f ∈ fitOf fits f

structure SeekOk (fits : List (List Int)) (room : List Int) (f : Nat) (seen : List Bool) (has : List Int) (seen' : List Bool) (has' : List Int) : Prop where
  lenS : seen'.length = seen.length
  lenH : has'.length = has.length
  own : hasOf has' f ∈ fitOf fits f ∧ ¬ seenOf seen (hasOf has' f)
  others : ∀ g, g ≠ f → hasOf has' g ≠ hasOf has g → hasOf has g ≠ -1 ∧ hasOf has' g ∈ fitOf fits g ∧ ¬ seenOf seen (hasOf has' g)
  loads : ∀ s : Int, 0 ≤ s → s < room.length → loadOf has' s ≤ roomOf room s

structure SeekNo (fits : List (List Int)) (room : List Int) (f : Nat) (seen : List Bool) (has : List Int) (seen' : List Bool) : Prop where
  lenS : seen'.length = seen.length
  mono : ∀ s, seenOf seen s → seenOf seen' s
  all : ∀ s ∈ fitOf fits f, seenOf seen' s
  closed : ∀ s, seenOf seen' s → ¬ seenOf seen s → roomOf room s ≤ loadOf has s ∧ ∀ g, hasOf has g = s → ∀ x ∈ fitOf fits g, seenOf seen' x

/-- Between two slots of the list of f: the first k slots are marked, and what was marked has led nowhere. -/
structure SeekTo (fits : List (List Int)) (room : List Int) (f : Nat) (seen : List Bool) (has : List Int) (k : Nat) (seen' : List Bool) : Prop where
  lenS : seen'.length = seen.length
  mono : ∀ s, seenOf seen s → seenOf seen' s
  all : ∀ s ∈ (fitOf fits f).take k, seenOf seen' s
  closed : ∀ s, seenOf seen' s → ¬ seenOf seen s → roomOf room s ≤ loadOf has s ∧ ∀ g, g ≠ f → hasOf has g = s → ∀ x ∈ fitOf fits g, seenOf seen' x

/-- Between two finds that have the slot s; base: what was marked when the slot was come to, and the slot. -/
structure SeekAt (fits : List (List Int)) (room : List Int) (f : Nat) (seen : List Bool) (has : List Int) (k : Nat) (s : Int) (gs : List Nat) (base : List Bool) (j : Nat) (seen' : List Bool) : Prop where
  lenS : seen'.length = seen.length
  more : ∀ x, seenOf base x → seenOf seen' x
  mono : ∀ x, seenOf seen x → seenOf seen' x
  all : ∀ x ∈ (fitOf fits f).take k, seenOf seen' x
  here : seenOf seen' s
  closed : ∀ x, seenOf seen' x → ¬ seenOf seen x → x ≠ s → roomOf room x ≤ loadOf has x ∧ ∀ g, g ≠ f → hasOf has g = x → ∀ y ∈ fitOf fits g, seenOf seen' y
  done : ∀ g ∈ gs.take j, g ≠ f → ∀ y ∈ fitOf fits g, seenOf seen' y

section
variable {fits : List (List Int)} {room : List Int} {f k j : Nat} {seen seen' seen'' base : List Bool} {has has' : List Int} {s : Int} {gs : List Nat}

theorem SeekTo.start : SeekTo fits room f seen has 0 seen := ⟨rfl, fun _ h => h, by simp, fun s h1 h2 => absurd h1 h2⟩
theorem SeekTo.skip (h : SeekTo fits room f seen has k seen') (hk : k < (fitOf fits f).length) (hs : seenOf seen' (fitOf fits f)[k]) : SeekTo fits room f seen has (k + 1) seen' :=
  ⟨h.lenS, h.mono, fun x hx => by
    rw [List.take_succ_eq_append_getElem hk] at hx
    simp only [List.mem_append, List.mem_singleton] at hx
    rcases hx with hx | rfl
    · exact h.all x hx
    · exact hs, h.closed⟩
theorem SeekTo.no (h : SeekTo fits room f seen has k seen') (hk : (fitOf fits f).length ≤ k) : SeekNo fits room f seen has seen' := by
  have hall : ∀ x ∈ fitOf fits f, seenOf seen' x := by have := h.all; rwa [List.take_of_length_le hk] at this
  refine ⟨h.lenS, h.mono, hall, fun s h1 h2 => ⟨(h.closed s h1 h2).1, fun g hg => ?_⟩⟩
  by_cases e : g = f
  · subst e; exact hall
  · exact (h.closed s h1 h2).2 g e hg
theorem SeekTo.open_ (h : SeekTo fits room f seen has k seen') (hs0 : 0 ≤ s) (hs : s.toNat < seen'.length) (gs : List Nat) : SeekAt fits room f seen has k s gs (seen'.set s.toNat true) 0 (seen'.set s.toNat true) := by
  have hset : ∀ x, seenOf (seen'.set s.toNat true) x ↔ x = s ∨ seenOf seen' x := fun x => by rw [seenOf_set hs, Int.toNat_of_nonneg hs0]
  refine ⟨by rw [List.length_set]; exact h.lenS, fun x hx => hx, fun x hx => (hset x).2 (.inr (h.mono x hx)), fun x hx => (hset x).2 (.inr (h.all x hx)), (hset s).2 (.inl rfl), fun x h1 h2 h3 => ?_, by simp⟩
  rcases (hset x).1 h1 with e | h1
  · exact absurd e h3
  · exact ⟨(h.closed x h1 h2).1, fun g hg he y hy => (hset y).2 (.inr ((h.closed x h1 h2).2 g hg he y hy))⟩
theorem SeekAt.same (h : SeekAt fits room f seen has k s gs base j seen') (hj : j < gs.length) (e : gs[j] = f) : SeekAt fits room f seen has k s gs base (j + 1) seen' :=
  ⟨h.lenS, h.more, h.mono, h.all, h.here, h.closed, fun g hg hne => by
    rw [List.take_succ_eq_append_getElem hj] at hg
    simp only [List.mem_append, List.mem_singleton] at hg
    rcases hg with hg | rfl
    · exact h.done g hg hne
    · exact absurd e hne⟩
theorem SeekAt.no (h : SeekAt fits room f seen has k s gs base j seen') (hj : j < gs.length) (hn : SeekNo fits room gs[j] seen' has seen'') : SeekAt fits room f seen has k s gs base (j + 1) seen'' := by
  refine ⟨hn.lenS.trans h.lenS, fun x hx => hn.mono x (h.more x hx), fun x hx => hn.mono x (h.mono x hx), fun x hx => hn.mono x (h.all x hx), hn.mono s h.here, fun x h1 h2 h3 => ?_, fun g hg hne => ?_⟩
  · by_cases hx : seenOf seen' x
    · exact ⟨(h.closed x hx h2 h3).1, fun g hg he y hy => hn.mono y ((h.closed x hx h2 h3).2 g hg he y hy)⟩
    · exact ⟨(hn.closed x h1 hx).1, fun g _ he => (hn.closed x h1 hx).2 g he⟩
  · rw [List.take_succ_eq_append_getElem hj] at hg
    simp only [List.mem_append, List.mem_singleton] at hg
    rcases hg with hg | rfl
    · exact fun y hy => hn.mono y (h.done g hg hne y hy)
    · exact hn.all
theorem SeekAt.close (h : SeekAt fits room f seen has k s gs base j seen') (hk : k < (fitOf fits f).length) (hs : (fitOf fits f)[k] = s) (hj : gs.length ≤ j) (hfull : roomOf room s ≤ loadOf has s) (hgs : ∀ g, hasOf has g = s → g ∈ gs) : SeekTo fits room f seen has (k + 1) seen' := by
  refine ⟨h.lenS, h.mono, fun x hx => ?_, fun x h1 h2 => ?_⟩
  · rw [List.take_succ_eq_append_getElem hk] at hx
    simp only [List.mem_append, List.mem_singleton] at hx
    rcases hx with hx | rfl
    · exact h.all x hx
    · rw [hs]; exact h.here
  · by_cases e : x = s
    · subst e
      refine ⟨hfull, fun g hg he => h.done g ?_ hg⟩
      rw [List.take_of_length_le hj]
      exact hgs g he
    · exact h.closed x h1 h2 e
/-- The slot has room: the find takes it. -/
theorem SeekTo.takes (hi : SeekIn fits room seen has) (h : SeekTo fits room f seen has k seen') (hf : f < fits.length) (hk : k < (fitOf fits f).length) (hs : (fitOf fits f)[k] = s) (hno : ¬ seenOf seen' s) (hroom : loadOf has s < roomOf room s) (hl : seen''.length = seen.length) :
    SeekOk fits room f seen has seen'' (has.set f s) := by
  have hfl : f < has.length := by rw [hi.lenH]; exact hf
  have hown : hasOf (has.set f s) f = s := by rw [hasOf_set _ hfl, if_pos rfl]
  refine ⟨hl, by simp, ?_, fun g hg he => absurd (by rw [hasOf_set _ hfl, if_neg hg]) he, fun x h0 h1 => ?_⟩
  · rw [hown]
    exact ⟨by rw [← hs]; exact List.getElem_mem hk, fun hx => hno (h.mono s hx)⟩
  · have h2 := loadOf_set_le s x hfl
    have h3 := hi.loads x h0 h1
    by_cases e : s = x
    · subst e; rw [if_pos rfl] at h2; omega
    · rw [if_neg e] at h2; omega
/-- One that had the slot has found another one: the find takes it. -/
theorem SeekAt.takes (hi : SeekIn fits room seen has) (h : SeekAt fits room f seen has k s gs base j seen') (hf : f < fits.length) (hk : k < (fitOf fits f).length) (hs : (fitOf fits f)[k] = s) (hno : ¬ seenOf seen s) (hj : j < gs.length) (hg : gs[j] < fits.length) (hgs : hasOf has gs[j] = s)
    (hok : SeekOk fits room gs[j] seen' has seen'' has') : SeekOk fits room f seen has seen'' (has'.set f s) := by
  have hl : has'.length = has.length := hok.lenH
  have hfl : f < has'.length := by rw [hl, hi.lenH]; exact hf
  have hown : hasOf (has'.set f s) f = s := by rw [hasOf_set _ hfl, if_pos rfl]
  have hmem : s ∈ fitOf fits f := by rw [← hs]; exact List.getElem_mem hk
  have hs0 := hi.wf f s hmem
  have hmoved : ∀ i, hasOf has' i = s → hasOf has i = s := fun i hx => by
    by_cases hne : hasOf has' i = hasOf has i
    · rw [← hne]; exact hx
    · exfalso
      by_cases e : i = gs[j]
      · subst e; exact hok.own.2 (by rw [hx]; exact h.here)
      · exact (hok.others i e hne).2.2 (by rw [hx]; exact h.here)
  have hless : loadOf has' s + 1 ≤ loadOf has s := load_less hl.symm (by rw [hi.lenH]; exact hg) hgs (fun e => hok.own.2 (by rw [e]; exact h.here)) hmoved
  refine ⟨hok.lenS.trans h.lenS, by simpa using hl, ?_, fun g hgf he => ?_, fun x h0 h1 => ?_⟩
  · rw [hown]; exact ⟨hmem, hno⟩
  · rw [hasOf_set _ hfl, if_neg hgf] at he ⊢
    by_cases e : g = gs[j]
    · subst e
      exact ⟨by rw [hgs]; omega, hok.own.1, fun hx => hok.own.2 (h.mono _ hx)⟩
    · obtain ⟨a, b, c⟩ := hok.others g e he
      exact ⟨a, b, fun hx => c (h.mono _ hx)⟩
  · have h2 := loadOf_set_le s x hfl
    by_cases e : s = x
    · subst e; rw [if_pos rfl] at h2
      have := hi.loads s hs0.1 hs0.2
      omega
    · rw [if_neg e] at h2
      have := hok.loads x h0 h1
      omega
theorem SeekOk.next (hi : SeekIn fits room seen has) (h : SeekOk fits room f seen has seen' has') : SeekIn fits room seen' has' :=
  ⟨h.lenH.trans hi.lenH, h.lenS.trans hi.lenS, hi.wf, h.loads, fun g => by
    by_cases e : g = f
    · subst e; exact .inr h.own.1
    · by_cases hc : hasOf has' g = hasOf has g
      · rw [hc]; exact hi.vals g
      · exact .inr (h.others g e hc).2.1⟩
theorem SeekIn.marked (hi : SeekIn fits room seen has) (hl : seen'.length = seen.length) : SeekIn fits room seen' has := ⟨hi.lenH, hl.trans hi.lenS, hi.wf, hi.loads, hi.vals⟩
end

/-- How many slots are not marked. -/
def blank (seen : List Bool) : Nat := seen.count false
theorem blank_set {seen : List Bool} {s : Nat} (h : s < seen.length) (hs : seen[s] = false) : blank (seen.set s true) + 1 = blank seen := by
  unfold blank
  rw [List.count_set h]
  have : 0 < seen.count false := List.count_pos_iff.2 (by rw [← hs]; exact List.getElem_mem h)
  simp [hs]; omega
theorem blank_mono : ∀ {seen seen' : List Bool}, seen'.length = seen.length → (∀ s, seenOf seen s → seenOf seen' s) → blank seen' ≤ blank seen
  | [], [], _, _ => Nat.le_refl _
  | [], _ :: _, h, _ => by simp at h
  | _ :: _, [], h, _ => by simp at h
  | x :: xs, y :: ys, h, hm => by
    have ih := @blank_mono xs ys (by simpa using h) (fun s hs => by
      have := hm (s + 1) ⟨by have := hs.1; omega, by
        have h0 := hs.1
        rw [show (s + 1).toNat = s.toNat + 1 from by omega]
        simpa using hs.2⟩
      refine ⟨hs.1, ?_⟩
      have h0 := hs.1
      have h2 := this.2
      rw [show (s + 1).toNat = s.toNat + 1 from by omega] at h2
      simpa using h2)
    have h0 : x = true → y = true := fun e => by
      have := hm 0 ⟨by omega, by simp [e]⟩
      simpa using this.2
    unfold blank at *
    rw [List.count_cons, List.count_cons]
    cases x <;> cases y <;> simp_all <;> omega
end Go.Proofs.Ytpmdjbjnihhjeaa
