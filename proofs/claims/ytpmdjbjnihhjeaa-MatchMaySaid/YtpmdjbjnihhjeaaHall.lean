/- Plain words on assignments: a short list of finds shows that there is none; what giving a find a slot, filling and fixing come to. No condition. -/
import Derived.Test.YtpmdjbjnihhjeaaKuhn
namespace Go.Proofs.Ytpmdjbjnihhjeaa

theorem rise_iff {l : List Int} {a b : Int} : Rise l a b ↔ l.Pairwise (· < ·) ∧ ∀ x ∈ l, a ≤ x ∧ x ≤ b := by
  constructor
  · intro h
    refine ⟨List.pairwise_iff_getElem.2 fun i j hi hj hij => ?_, fun x hx => ?_⟩
    · induction j with
      | zero => omega
      | succ j ih =>
        have h1 := (h (j + 1) hj hj).2.2 (by omega)
        simp only [Nat.add_sub_cancel] at h1
        rcases Nat.lt_or_ge i j with hlt | hge
        · have := ih (by omega) hlt; omega
        · obtain rfl : i = j := by omega
          exact h1
    · obtain ⟨i, hi, rfl⟩ := List.getElem_of_mem hx
      exact ⟨(h i hi hi).1, (h i hi hi).2.1⟩
  · rintro ⟨h1, h2⟩ j hj _
    have h3 := h2 _ (List.getElem_mem hj)
    exact ⟨h3.1, h3.2, fun h0 => List.pairwise_iff_getElem.1 h1 (j - 1) j (by omega) hj (by omega)⟩

theorem length_sum (n : Nat) : ∀ l : List Int, l.Pairwise (· < ·) → (∀ x ∈ l, 0 ≤ x ∧ x ≤ (n : Int) - 1) → (l.length : Int) = sumTo (fun i => if (i : Int) ∈ l then 1 else 0) n
  | [], _, _ => by simp only [List.length_nil, List.not_mem_nil, if_false]; rw [sumTo_zero]; rfl
  | x :: xs, hp, hb => by
    rw [List.pairwise_cons] at hp
    have ih := length_sum n xs hp.2 (fun y hy => hb y (List.mem_cons_of_mem _ hy))
    have hx := hb x (List.mem_cons_self ..)
    have h1 := sumTo_one x (fun _ => true) n
    rw [if_pos ⟨hx.1, by omega, rfl⟩] at h1
    rw [List.length_cons]
    have h2 : sumTo (fun i => if (i : Int) ∈ x :: xs then (1 : Int) else 0) n = sumTo (fun i => (if ((fun _ => true) (i : Int)) = true then (if x = (i : Int) then (1 : Int) else 0) else 0) + (if (i : Int) ∈ xs then 1 else 0)) n := by
      refine sumTo_congr fun i _ => ?_
      simp only [if_true, List.mem_cons]
      by_cases e : x = (i : Int)
      · subst e
        have hn : ¬ (i : Int) ∈ xs := fun hm => by have := hp.1 _ hm; omega
        simp [hn]
      · rw [if_neg e]
        by_cases hm : (i : Int) ∈ xs
        · simp [hm]
        · simp [hm]; exact fun h => e h.symm
    rw [h2, sumTo_add, h1, ← ih]
    omega

/-- Some find of the list fits the slot. -/
def Near (fits : List (List Int)) (H : List Int) (s : Int) : Bool := H.any fun f => decide (s ∈ fitOf fits f.toNat)
theorem near_iff {fits : List (List Int)} {H : List Int} {s : Int} : Near fits H s = true ↔ ∃ f ∈ H, s ∈ fitOf fits f.toNat := by simp [Near]

/-- How much room there is at all slots that some find of the list fits. -/
def nearRoom (fits : List (List Int)) (room : List Int) (H : List Int) : Int := sumTo (fun s => if Near fits H (s : Int) then roomOf room (s : Int) else 0) room.length

/-- A list of finds that fit, all together, less than they are. -/
structure Short (fits : List (List Int)) (room : List Int) (H : List Int) : Prop where
  rise : Rise H 0 ((fits.length : Int) - 1)
  fit : ∀ f ∈ H, fitOf fits f.toNat ≠ []
  few : nearRoom fits room H < H.length

def Inside (fits : List (List Int)) (m : Nat) : Prop := ∀ f, ∀ s ∈ fitOf fits f, 0 ≤ s ∧ s < m

theorem short_no {fits : List (List Int)} {room H a : List Int} (hw : Inside fits room.length) (h : Short fits room H) (hl : a.length = fits.length) (hfit : ∀ f : Nat, (f : Int) ∈ H → hasOf a f ∈ fitOf fits f)
    (hload : ∀ s : Int, 0 ≤ s → s < room.length → loadOf a s ≤ roomOf room s) : False := by
  obtain ⟨hp, hb⟩ := rise_iff.1 h.rise
  have h1 := length_sum fits.length H hp hb
  have h2 := sum_swap a (Near fits H) room.length
  have h3 : sumTo (fun s => if Near fits H (s : Int) = true then loadOf a (s : Int) else 0) room.length ≤ nearRoom fits room H := by
    refine sumTo_le fun s hs => ?_
    by_cases hn : Near fits H (s : Int) = true
    · rw [if_pos hn, if_pos hn]; exact hload _ (by omega) (by omega)
    · rw [if_neg hn, if_neg hn]; exact Int.le_refl _
  have h4 : sumTo (fun i => if (i : Int) ∈ H then (1 : Int) else 0) fits.length ≤ sumTo (fun i => if 0 ≤ hasOf a i ∧ hasOf a i < room.length ∧ Near fits H (hasOf a i) = true then 1 else 0) a.length := by
    rw [hl]
    refine sumTo_le fun i _ => ?_
    by_cases hm : (i : Int) ∈ H
    · have hf := hfit i hm
      have hin := hw i _ hf
      rw [if_pos hm, if_pos ⟨hin.1, hin.2, near_iff.2 ⟨_, hm, by simpa using hf⟩⟩]
      exact Int.le_refl _
    · rw [if_neg hm]; split <;> omega
  have := h.few
  omega

/-- Some finds have slots that they fit, no slot more than it can take. -/
structure Part (fits : List (List Int)) (room has : List Int) : Prop where
  lenH : has.length = fits.length
  wf : Inside fits room.length
  loads : ∀ s : Int, 0 ≤ s → s < room.length → loadOf has s ≤ roomOf room s
  vals : ∀ f, hasOf has f = -1 ∨ hasOf has f ∈ fitOf fits f
theorem seenOf_none {m : Nat} {s : Int} : ¬ seenOf (List.replicate m false) s := by
  rintro ⟨_, h⟩
  rw [List.getElem?_replicate] at h
  split at h <;> simp at h
theorem Part.seekIn {fits : List (List Int)} {room has : List Int} (h : Part fits room has) : SeekIn fits room (List.replicate room.length false) has := ⟨h.lenH, by simp, h.wf, h.loads, h.vals⟩

structure GiveOk (fits : List (List Int)) (room : List Int) (f : Nat) (has has' : List Int) : Prop where
  lenH : has'.length = has.length
  own : hasOf has' f ∈ fitOf fits f
  others : ∀ g, g ≠ f → hasOf has' g ≠ hasOf has g → hasOf has g ≠ -1 ∧ hasOf has' g ∈ fitOf fits g
  loads : ∀ s : Int, 0 ≤ s → s < room.length → loadOf has' s ≤ roomOf room s
theorem SeekOk.give {fits : List (List Int)} {room has has' : List Int} {f : Nat} {seen seen' : List Bool} (h : SeekOk fits room f seen has seen' has') : GiveOk fits room f has has' :=
  ⟨h.lenH, h.own.1, fun g hg he => ⟨(h.others g hg he).1, (h.others g hg he).2.1⟩, h.loads⟩
theorem GiveOk.part {fits : List (List Int)} {room has has' : List Int} {f : Nat} (hp : Part fits room has) (h : GiveOk fits room f has has') : Part fits room has' :=
  ⟨h.lenH.trans hp.lenH, hp.wf, h.loads, fun g => by
    by_cases e : g = f
    · subst e; exact .inr h.own
    · by_cases hc : hasOf has' g = hasOf has g
      · rw [hc]; exact hp.vals g
      · exact .inr (h.others g e hc).2⟩
theorem GiveOk.none {fits : List (List Int)} {room has has' : List Int} {f : Nat} (hp : Part fits room has) (h : GiveOk fits room f has has') (g : Nat) (hg : g ≠ f) : hasOf has' g = -1 ↔ hasOf has g = -1 := by
  by_cases hc : hasOf has' g = hasOf has g
  · rw [hc]
  · obtain ⟨h1, h2⟩ := h.others g hg hc
    exact ⟨fun e => by have := hp.wf g _ h2; omega, fun e => absurd e h1⟩

/-- Where the search finds nothing: the finds that stand in each other's way. -/
structure GiveNo (fits : List (List Int)) (room : List Int) (f : Nat) (has H : List Int) : Prop where
  short : Short fits room H
  mine : ∀ g : Nat, (g : Int) ∈ H → g = f ∨ hasOf has g ≠ -1

theorem give_short {fits : List (List Int)} {room has H : List Int} {f : Nat} {seen' : List Bool} (hp : Part fits room has) (hf : f < fits.length) (hno : hasOf has f = -1) (hne : fitOf fits f ≠ [])
    (h : SeekNo fits room f (List.replicate room.length false) has seen') (hH : H.Pairwise (· < ·)) (hm : ∀ x : Int, x ∈ H ↔ ∃ g : Nat, x = (g : Int) ∧ (g = f ∨ (g < fits.length ∧ seenOf seen' (hasOf has g)))) : GiveNo fits room f has H := by
  have hlt : ∀ s, seenOf seen' s → s < room.length := fun s hs => by
    have := (List.getElem?_eq_some_iff.1 hs.2).1
    rw [h.lenS, List.length_replicate] at this
    have := hs.1
    omega
  have hb : ∀ x ∈ H, 0 ≤ x ∧ x ≤ (fits.length : Int) - 1 := fun x hx => by
    obtain ⟨g, rfl, rfl | ⟨hg, _⟩⟩ := (hm x).1 hx <;> omega
  have hfit : ∀ x ∈ H, ∀ s ∈ fitOf fits x.toNat, seenOf seen' s := fun x hx s hs => by
    obtain ⟨g, rfl, rfl | ⟨hg, hg2⟩⟩ := (hm x).1 hx
    · exact h.all s (by simpa using hs)
    · exact (h.closed _ hg2 seenOf_none).2 g rfl s (by simpa using hs)
  have hsub : nearRoom fits room H ≤ sumTo (fun s => if (fun x => decide (seen'[x.toNat]? = some true)) (s : Int) = true then loadOf has (s : Int) else 0) room.length := by
    refine sumTo_le fun s hs => ?_
    by_cases hn : Near fits H (s : Int) = true
    · obtain ⟨x, hx, hxs⟩ := near_iff.1 hn
      have hseen := hfit x hx _ hxs
      rw [if_pos hn, if_pos (by simpa using hseen.2)]
      exact (h.closed _ hseen seenOf_none).1
    · rw [if_neg hn]
      split
      · exact loadOf_nonneg _ _
      · omega
  have hswap := sum_swap has (fun x => decide (seen'[x.toNat]? = some true)) room.length
  have hlen := length_sum fits.length H hH hb
  have hle : sumTo (fun i => (if 0 ≤ hasOf has i ∧ hasOf has i < room.length ∧ (fun x => decide (seen'[x.toNat]? = some true)) (hasOf has i) = true then (1 : Int) else 0) + (if ((fun _ => true) (i : Int)) = true then (if (f : Int) = (i : Int) then (1 : Int) else 0) else 0)) fits.length ≤ sumTo (fun i => if (i : Int) ∈ H then 1 else 0) fits.length := by
    refine sumTo_le fun i hi => ?_
    simp only [if_true]
    by_cases e : f = i
    · subst e
      rw [if_neg (by omega), if_pos rfl, if_pos ((hm _).2 ⟨f, rfl, .inl rfl⟩)]
      exact Int.le_refl _
    · rw [if_neg (show ¬ (f : Int) = i from by omega)]
      by_cases hs : 0 ≤ hasOf has i ∧ hasOf has i < room.length ∧ decide (seen'[(hasOf has i).toNat]? = some true) = true
      · rw [if_pos hs, if_pos ((hm _).2 ⟨i, rfl, .inr ⟨hi, hs.1, by simpa using hs.2.2⟩⟩)]
        exact Int.le_refl _
      · rw [if_neg hs]; split <;> omega
  have hone := (sumTo_one f (fun _ => true) fits.length).trans (if_pos ⟨by omega, by omega, rfl⟩)
  rw [sumTo_add, hone] at hle
  rw [hp.lenH] at hswap
  simp only [] at hle hswap hsub
  refine ⟨⟨rise_iff.2 ⟨hH, hb⟩, fun x hx => ?_, by omega⟩, fun g hg => ?_⟩
  · obtain ⟨g, rfl, rfl | ⟨hg, hg2⟩⟩ := (hm x).1 hx
    · simpa using hne
    · rw [Int.toNat_natCast]
      rcases hp.vals g with e | e
      · have := hg2.1; omega
      · exact fun h0 => by rw [h0] at e; simp at e
  · obtain ⟨g', e, rfl | ⟨_, hg2⟩⟩ := (hm _).1 hg
    · exact .inl (by omega)
    · obtain rfl : g = g' := by omega
      exact .inr (by have := hg2.1; omega)

/-- An assignment: each find that fits some slot has one that it fits, and no slot more than it can take. -/
structure Asg (fits : List (List Int)) (room a : List Int) : Prop where
  len : a.length = fits.length
  nobody : ∀ f, fitOf fits f = [] → hasOf a f = -1
  fit : ∀ f, fitOf fits f ≠ [] → hasOf a f ∈ fitOf fits f
  loads : ∀ s : Int, 0 ≤ s → s < room.length → loadOf a s ≤ roomOf room s

section
variable {fits : List (List Int)} {room room' a has has' H : List Int} {f k : Nat} {slot out : Int}

theorem fitOf_ge (h : fits.length ≤ f) : fitOf fits f = [] := by unfold fitOf; simp [h]
theorem fitOf_ne (h : fitOf fits f ≠ []) : f < fits.length := by
  rcases Nat.lt_or_ge f fits.length with h1 | h1
  · exact h1
  · exact absurd (fitOf_ge h1) h
theorem Asg.part (hw : Inside fits room.length) (h : Asg fits room a) : Part fits room a := ⟨h.len, hw, h.loads, fun f => by
  by_cases e : fitOf fits f = []
  · exact .inl (h.nobody f e)
  · exact .inr (h.fit f e)⟩
theorem Asg.no_short (hw : Inside fits room.length) (h : Asg fits room a) (hs : Short fits room H) : False :=
  short_no hw hs h.len (fun f hf => h.fit f (by simpa using hs.fit _ hf)) h.loads

/-- Between two finds of filling: whoever has none is behind, left out, or fits none. -/
structure FillTo (fits : List (List Int)) (room : List Int) (out : Int) (k : Nat) (has : List Int) : Prop where
  part : Part fits room has
  none : ∀ g, g < fits.length → (hasOf has g = -1 ↔ k ≤ g ∨ (g : Int) = out ∨ fitOf fits g = [])
theorem FillTo.start (hw : Inside fits room.length) (hr : ∀ s : Int, 0 ≤ s → s < room.length → 0 ≤ roomOf room s) : FillTo fits room out 0 (List.replicate fits.length (-1)) := by
  have hn : ∀ g, hasOf (List.replicate fits.length (-1)) g = -1 := fun g => by
    unfold hasOf
    simp only [List.getD_eq_getElem?_getD, List.getElem?_replicate]
    split <;> rfl
  refine ⟨⟨by simp, hw, fun s h0 h1 => ?_, fun f => .inl (hn f)⟩, fun g _ => ⟨fun _ => .inl (by omega), fun _ => hn g⟩⟩
  have : loadOf (List.replicate fits.length (-1)) s = 0 := by
    unfold loadOf
    rw [List.count_replicate]
    rw [if_neg (by simp; omega)]
    rfl
  rw [this]; exact hr s h0 h1
theorem FillTo.skip (h : FillTo fits room out k has) (hk : k < fits.length) (hs : fitOf fits k = [] ∨ (k : Int) = out ∨ 0 ≤ hasOf has k) : FillTo fits room out (k + 1) has := by
  refine ⟨h.part, fun g hg => ?_⟩
  rw [h.none g hg]
  by_cases e : g = k
  · subst e
    rcases hs with hs | hs | hs
    · simp [hs]
    · simp [hs]
    · have h1 : ¬ hasOf has g = -1 := by omega
      rw [h.none g hg] at h1
      exact absurd (.inl (Nat.le_refl _)) h1
  · have : (k ≤ g) ↔ (k + 1 ≤ g) := by omega
    rw [this]
theorem FillTo.next (h : FillTo fits room out k has) (ho : (k : Int) ≠ out) (hg : GiveOk fits room k has has') : FillTo fits room out (k + 1) has' := by
  refine ⟨hg.part h.part, fun g hgl => ?_⟩
  by_cases e : g = k
  · subst e
    have h1 := h.part.wf g _ hg.own
    constructor
    · intro h2; omega
    · rintro (h2 | h2 | h2)
      · omega
      · exact absurd h2 ho
      · have := hg.own; rw [h2] at this; simp at this
  · rw [hg.none h.part g e, h.none g hgl]
    have : (k ≤ g) ↔ (k + 1 ≤ g) := by omega
    rw [this]
/-- What filling comes to. -/
structure Filled (fits : List (List Int)) (room : List Int) (out : Int) (has : List Int) : Prop where
  part : Part fits room has
  none : ∀ g, g < fits.length → (hasOf has g = -1 ↔ (g : Int) = out ∨ fitOf fits g = [])
theorem FillTo.done (h : FillTo fits room out k has) (hk : fits.length ≤ k) : Filled fits room out has := ⟨h.part, fun g hg => by
  rw [h.none g hg]
  constructor
  · rintro (h1 | h1)
    · omega
    · exact h1
  · exact .inr⟩
theorem Filled.asg (h : Filled fits room out has) (ho : out < 0) : Asg fits room has := by
  refine ⟨h.part.lenH, fun f hf => ?_, fun f hf => ?_, h.part.loads⟩
  · rcases Nat.lt_or_ge f fits.length with h1 | h1
    · exact (h.none f h1).2 (.inr hf)
    · exact hasOf_ge (by rw [h.part.lenH]; exact h1)
  · rcases h.part.vals f with e | e
    · rcases (h.none f (fitOf_ne hf)).1 e with h1 | h1
      · omega
      · exact absurd h1 hf
    · exact e
/-- A list that shows that there is no filling. -/
structure Stuck (fits : List (List Int)) (room : List Int) (out : Int) (H : List Int) : Prop where
  short : Short fits room H
  out : out ∉ H
theorem FillTo.stuck (h : FillTo fits room out k has) (ho : (k : Int) ≠ out) (hout : out < 0 ∨ out < fits.length) (hn : GiveNo fits room k has H) : Stuck fits room out H := by
  refine ⟨hn.short, fun hm => ?_⟩
  have hb := (rise_iff.1 hn.short.rise).2 out hm
  obtain ⟨o, rfl⟩ : ∃ o : Nat, out = (o : Int) := ⟨out.toNat, by omega⟩
  rcases hn.mine o hm with e | e
  · omega
  · exact e ((h.none o (by omega)).2 (.inr (.inl rfl)))

/-- The room with one piece less at a slot. -/
def less (room : List Int) (s : Int) : List Int := room.set s.toNat (roomOf room s - 1)
theorem roomOf_less (h0 : 0 ≤ slot) (h1 : slot < room.length) {x : Int} (hx : 0 ≤ x) : roomOf (less room slot) x = roomOf room x - if x = slot then 1 else 0 := by
  unfold less roomOf
  simp only [h0, hx, if_true, List.getD_eq_getElem?_getD, List.getElem?_set]
  by_cases e : x = slot
  · subst e
    simp [show x.toNat < room.length from by omega]
  · rw [if_neg e, if_neg (by omega)]; omega
theorem less_length : (less room slot).length = room.length := by simp [less]

/-- A denial shows that no assignment gives the find the slot. -/
theorem denied_no (hw : Inside fits room.length) (h0 : 0 ≤ slot) (h1 : slot < room.length) (h : Short fits (less room slot) H) (hf : (f : Int) ∉ H) (ha : Asg fits room a) (hs : hasOf a f = slot) : False := by
  have hfl : f < a.length := by
    rcases Nat.lt_or_ge f a.length with h2 | h2
    · exact h2
    · rw [hasOf_ge h2] at hs; omega
  refine short_no (a := a.set f (-1)) (room := less room slot) (by rw [less_length]; exact hw) h (by simp [ha.len]) (fun g hg => ?_) (fun s hs0 hs1 => ?_)
  · have e : g ≠ f := fun e => hf (e ▸ hg)
    rw [hasOf_set _ hfl, if_neg e]
    exact ha.fit g (by simpa using h.fit _ hg)
  · rw [less_length] at hs1
    rw [roomOf_less h0 h1 hs0, loadOf_set _ _ hfl, hs]
    have := ha.loads s hs0 hs1
    by_cases e : s = slot
    · subst e; rw [if_pos rfl, if_neg (by omega)]; simp; omega
    · rw [if_neg e, if_neg (fun k => e k.symm), if_neg (by omega)]; omega

/-- Fixing a find to a slot: it leaves its own, and there is still a place. -/
theorem fix_room (hw : Inside fits room.length) (ha : Asg fits room a) (hm : slot ∈ fitOf fits f) (hne : hasOf a f ≠ slot) (hroom : loadOf (a.set f (-1)) slot ≤ roomOf (less room slot) slot) : Asg fits room ((a.set f (-1)).set f slot) := by
  have hs := hw f _ hm
  have hfn : fitOf fits f ≠ [] := fun e => by rw [e] at hm; simp at hm
  have hfl : f < a.length := by rw [ha.len]; exact fitOf_ne hfn
  rw [List.set_set]
  refine ⟨by simp [ha.len], fun g hg => ?_, fun g hg => ?_, fun s h0 h1 => ?_⟩
  · have e : g ≠ f := fun e => hfn (e ▸ hg)
    rw [hasOf_set _ hfl, if_neg e]; exact ha.nobody g hg
  · rw [hasOf_set _ hfl]
    split
    · rename_i e; rw [e]; exact hm
    · exact ha.fit g hg
  · rw [loadOf_set _ _ hfl] at hroom ⊢
    rw [roomOf_less hs.1 hs.2 hs.1, if_pos rfl, if_neg hne, if_neg (by omega)] at hroom
    have := ha.loads s h0 h1
    by_cases e : slot = s
    · subst e; rw [if_neg hne, if_pos rfl]; omega
    · rw [if_neg e]; split <;> omega

/-- Before one that has the slot looks for another one. -/
theorem fix_part (hw : Inside fits room.length) (ha : Asg fits room a) (hm : slot ∈ fitOf fits f) (hne : hasOf a f ≠ slot) {g : Nat} (hg : hasOf (a.set f (-1)) g = slot) : Part fits (less room slot) ((a.set f (-1)).set g (-1)) ∧ hasOf ((a.set f (-1)).set g (-1)) g = -1 ∧ g ≠ f ∧ fitOf fits g ≠ [] ∧ g < fits.length ∧ hasOf ((a.set f (-1)).set g (-1)) f = -1 := by
  have hs := hw f _ hm
  have hfn : fitOf fits f ≠ [] := fun e => by rw [e] at hm; simp at hm
  have hfl : f < a.length := by rw [ha.len]; exact fitOf_ne hfn
  have hgf : g ≠ f := fun e => by rw [e, hasOf_set _ hfl, if_pos rfl] at hg; omega
  rw [hasOf_set _ hfl, if_neg hgf] at hg
  have hgl : g < (a.set f (-1)).length := by
    rw [List.length_set]
    rcases Nat.lt_or_ge g a.length with h2 | h2
    · exact h2
    · rw [hasOf_ge h2] at hg; omega
  have hgn : fitOf fits g ≠ [] := fun e => by rw [ha.nobody g e] at hg; omega
  refine ⟨⟨by simp [ha.len], by rw [less_length]; exact hw, fun s h0 h1 => ?_, fun x => ?_⟩, by rw [hasOf_set _ hgl, if_pos rfl], hgf, hgn, by simpa [ha.len] using hgl, by rw [hasOf_set _ hgl, if_neg (fun e => hgf e.symm), hasOf_set _ hfl, if_pos rfl]⟩
  · rw [less_length] at h1
    rw [loadOf_set _ _ hgl, loadOf_set _ _ hfl, hasOf_set _ hfl, if_neg hgf, hg, roomOf_less hs.1 hs.2 h0]
    have := ha.loads s h0 h1
    by_cases e : s = slot
    · subst e; rw [if_neg hne, if_pos rfl, if_neg (by omega)]; simp; omega
    · rw [if_neg (fun k => e (Eq.symm k)), if_neg e, if_neg (show ¬ (-1 : Int) = s from by omega)]; split <;> omega
  · rw [hasOf_set _ hgl, hasOf_set _ hfl]
    split
    · exact .inl rfl
    · split
      · exact .inl rfl
      · by_cases e : fitOf fits x = []
        · exact .inl (ha.nobody x e)
        · exact .inr (ha.fit x e)
/-- Behind it. -/
theorem fix_ok (hw : Inside fits room.length) (ha : Asg fits room a) (hm : slot ∈ fitOf fits f) (hne : hasOf a f ≠ slot) {g : Nat} (hg : hasOf (a.set f (-1)) g = slot) (h : GiveOk fits (less room slot) g ((a.set f (-1)).set g (-1)) has') : Asg fits room (has'.set f slot) := by
  obtain ⟨hp, h1, h2, h3, h4, h5⟩ := fix_part hw ha hm hne hg
  have hs := hw f _ hm
  have hfn : fitOf fits f ≠ [] := fun e => by rw [e] at hm; simp at hm
  have hl : has'.length = fits.length := h.lenH.trans hp.lenH
  have hfl : f < has'.length := by rw [hl]; exact fitOf_ne hfn
  have hf1 : hasOf has' f = -1 := (h.none hp f (fun e => h2 e.symm)).2 h5
  have hal : a.length = fits.length := ha.len
  have hfa : f < a.length := by omega
  have hga : g < (a.set f (-1)).length := by rw [List.length_set]; omega
  have hpart := h.part hp
  refine ⟨by simpa using hl, fun x hx => ?_, fun x hx => ?_, fun s h0 h6 => ?_⟩
  · have e : x ≠ f := fun e => hfn (e ▸ hx)
    rw [hasOf_set _ hfl, if_neg e]
    rcases hpart.vals x with k | k
    · exact k
    · rw [hx] at k; simp at k
  · rw [hasOf_set _ hfl]
    split
    · rename_i e; rw [e]; exact hm
    · rename_i e
      rcases hpart.vals x with k | k
      · exfalso
        by_cases eg : x = g
        · subst eg
          have := h.own
          rw [k] at this
          have := hw x _ this
          omega
        · rw [h.none hp x eg, hasOf_set _ hga, if_neg eg, hasOf_set _ hfa, if_neg e] at k
          have := ha.fit x hx
          rw [k] at this
          have := hw x _ this
          omega
      · exact k
  · have h7 := h.loads s h0 (by rw [less_length]; exact h6)
    rw [roomOf_less hs.1 hs.2 h0] at h7
    rw [loadOf_set _ _ hfl, hf1, if_neg (by omega)]
    by_cases e : s = slot
    · subst e; rw [if_pos rfl] at h7; rw [if_pos rfl]; omega
    · rw [if_neg e] at h7; rw [if_neg (fun k => e k.symm)]; omega
/-- If it finds none, no assignment gives the find the slot. -/
theorem fix_no (hw : Inside fits room.length) (ha : Asg fits room a) (hm : slot ∈ fitOf fits f) (hne : hasOf a f ≠ slot) {g : Nat} (hg : hasOf (a.set f (-1)) g = slot) (h : GiveNo fits (less room slot) g ((a.set f (-1)).set g (-1)) H) {c : List Int} (hc : Asg fits room c) : hasOf c f ≠ slot := fun e => by
  obtain ⟨_, _, h2, _, _, h5⟩ := fix_part hw ha hm hne hg
  have hs := hw f _ hm
  refine denied_no hw hs.1 hs.2 h.short (fun hf => ?_) hc e
  rcases h.mine f hf with k | k
  · exact h2 k.symm
  · exact k h5
end
end Go.Proofs.Ytpmdjbjnihhjeaa
