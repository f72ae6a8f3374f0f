/- What a report is, which reports count, and when a list of reports is valid (plain); What a report of its kind has (plain): what fields hands back, and when a report is well-formed. -/
import Derived.WalkKit
namespace Go.Proofs.YtfaoillnakhejaaGreat
set_option maxRecDepth 100000
section
open Go.RowKit
set_option linter.unusedSimpArgs false
structure Rep where
  id : Int
  known : Int
  hour : Int
  kind : Int
  parcel : Int
  count : Int
  parts : List Int
  cell : Int
  mark : ByteArray
  goods : ByteArray
  lo : Int
  hi : Int
  party : Int
  other : Int
  of : Int
  deriving DecidableEq
/-- The parcels that a report makes. -/
def Rep.makes (r : Rep) : List Int := if r.kind = 1 ∨ r.kind = 3 then [10 * r.id] else if r.kind = 2 then (List.range r.count.toNat).map fun (i : Nat) => 10 * r.id + (i : Int) else []
/-- The parcels that a report uses up. -/
def Rep.uses (r : Rep) : List Int := if r.kind = 2 then [r.parcel] else if r.kind = 3 then r.parts else if r.kind = 7 then [r.other] else []
/-- The parcels that a report names and does not make. -/
def Rep.touches (r : Rep) : List Int := ([r.parcel, r.other] ++ r.parts).filter fun p => decide (0 < p)
def Rep.names (r : Rep) (p : Int) : Prop := p ∈ r.touches ∨ p ∈ r.makes
instance (r : Rep) (p : Int) : Decidable (r.names p) := inferInstanceAs (Decidable (_ ∨ _))
def isLow (c : UInt8) : Bool := 97 ≤ c && c ≤ 122
def isDig (c : UInt8) : Bool := 48 ≤ c && c ≤ 57
def nameB (s : ByteArray) : Bool := decide (1 ≤ s.size ∧ s.size ≤ 24) && (match s.data.toList with | [] => false | c :: _ => isLow c) && s.data.toList.all fun c => isLow c || isDig c || c == 45
def markB (s : ByteArray) : Bool := decide (1 ≤ s.size ∧ s.size ≤ 12) && s.data.toList.all fun c => isLow c || isDig c || c == 63
def parcelB (n : Int) : Bool := decide (10 ≤ n ∧ n ≤ 10000007)
def spanB (lo hi : Int) : Bool := decide (1 ≤ lo ∧ lo ≤ hi ∧ hi ≤ 100000)
def partyB (n : Int) : Bool := decide (1 ≤ n ∧ n ≤ 40)
/-- Different numbers of parcels, 2 to 8 of them. -/
def partsB (l : List Int) : Bool := decide (2 ≤ l.length ∧ l.length ≤ 8) && l.all parcelB && decide l.Nodup
/-- What a kind does not use is nought. -/
def Rep.blankB (r : Rep) (found parcel count parts weight party other of : Bool) : Bool :=
  (found || (decide (r.cell = 0) && decide (r.mark.size = 0) && decide (r.goods.size = 0))) && (parcel || decide (r.parcel = 0)) && (count || decide (r.count = 0)) && (parts || decide (r.parts = [])) &&
  (weight || (decide (r.lo = 0) && decide (r.hi = 0))) && (party || decide (r.party = 0)) && (other || decide (r.other = 0)) && (of || decide (r.of = 0))
/-- What a kind asks of what it uses. -/
def Rep.kindB (r : Rep) : Bool :=
  if r.kind = 1 then r.blankB true false false false true true false false && decide (0 ≤ r.cell ∧ r.cell ≤ 39) && markB r.mark && nameB r.goods && spanB r.lo r.hi && partyB r.party
  else if r.kind = 2 then r.blankB false true true false false false false false && parcelB r.parcel && decide (2 ≤ r.count ∧ r.count ≤ 8)
  else if r.kind = 3 then r.blankB false false false true false false false false && partsB r.parts
  else if r.kind = 4 then r.blankB false true false false true false false false && parcelB r.parcel && spanB r.lo r.hi
  else if r.kind = 5 ∨ r.kind = 6 then r.blankB false true false false false true false false && parcelB r.parcel && partyB r.party
  else if r.kind = 7 then r.blankB false true false false false false true false && parcelB r.parcel && parcelB r.other && decide (r.parcel ≠ r.other)
  else if r.kind = 8 then r.blankB false false false false false false false true && decide (r.hour = 0) && decide (1 ≤ r.of ∧ r.of ≤ 1000000 ∧ r.of ≠ r.id)
  else false
/-- A report is well-formed. -/
def Rep.wfB (r : Rep) : Bool := decide (1 ≤ r.id ∧ r.id ≤ 1000000) && decide (0 ≤ r.known ∧ r.known ≤ 1000000) && decide (0 ≤ r.hour ∧ r.hour ≤ r.known) && r.kindB
/-- What well-formed reports have, as far as parcels go. -/
structure Rep.Wf (r : Rep) : Prop where
  id : 1 ≤ r.id ∧ r.id ≤ 1000000
  known : 0 ≤ r.known ∧ r.known ≤ 1000000
  hour : 0 ≤ r.hour ∧ r.hour ≤ r.known
  kind : 1 ≤ r.kind ∧ r.kind ≤ 8
  count : r.kind = 2 → 2 ≤ r.count ∧ r.count ≤ 8
  parts : r.kind = 3 → 2 ≤ r.parts.length ∧ r.parts.length ≤ 8 ∧ r.parts.Nodup ∧ ∀ p ∈ r.parts, 10 ≤ p ∧ p ≤ 10000007
  noParts : r.kind ≠ 3 → r.parts = []
  parcel : r.kind = 2 ∨ r.kind = 4 ∨ r.kind = 5 ∨ r.kind = 6 ∨ r.kind = 7 → 10 ≤ r.parcel ∧ r.parcel ≤ 10000007
  noParcel : r.kind = 1 ∨ r.kind = 3 ∨ r.kind = 8 → r.parcel = 0
  other : r.kind = 7 → 10 ≤ r.other ∧ r.other ≤ 10000007 ∧ r.parcel ≠ r.other
  noOther : r.kind ≠ 7 → r.other = 0
  span : r.kind = 1 ∨ r.kind = 4 → 1 ≤ r.lo ∧ r.lo ≤ r.hi ∧ r.hi ≤ 100000
  cell : r.kind = 1 → 0 ≤ r.cell ∧ r.cell ≤ 39
  party : r.kind = 1 → 1 ≤ r.party ∧ r.party ≤ 40
  of : r.kind = 8 → 1 ≤ r.of ∧ r.of ≤ 1000000 ∧ r.of ≠ r.id
theorem Rep.wf {r : Rep} (h : r.wfB = true) : r.Wf := by
  unfold Rep.wfB at h
  simp only [Bool.and_eq_true, decide_eq_true_eq] at h
  obtain ⟨⟨⟨h1, h2⟩, h3⟩, h4⟩ := h
  have hall : r.parts.all parcelB = true → ∀ p ∈ r.parts, 10 ≤ p ∧ p ≤ 10000007 := fun h p hp => by
    have := List.all_eq_true.1 h p hp
    unfold parcelB at this
    exact of_decide_eq_true this
  unfold Rep.kindB at h4
  by_cases k1 : r.kind = 1
  · rw [if_pos k1] at h4
    simp only [Rep.blankB, spanB, partyB, Bool.and_eq_true, decide_eq_true_eq, Bool.true_or, Bool.false_or, true_and] at h4
    obtain ⟨⟨⟨⟨⟨h5, h6⟩, _⟩, _⟩, h7⟩, h8⟩ := h4
    exact ⟨h1, h2, h3, by omega, by omega, by omega, fun _ => by simp_all, by omega, by omega, by omega, by omega, fun _ => h7, fun _ => h6, fun _ => h8, by omega⟩
  rw [if_neg k1] at h4
  by_cases k2 : r.kind = 2
  · rw [if_pos k2] at h4
    simp only [Rep.blankB, parcelB, Bool.and_eq_true, decide_eq_true_eq, Bool.true_or, Bool.false_or, true_and] at h4
    obtain ⟨⟨h5, h6⟩, h7⟩ := h4
    exact ⟨h1, h2, h3, by omega, fun _ => h7, by omega, fun _ => by simp_all, fun _ => h6, by omega, by omega, by omega, by omega, by omega, by omega, by omega⟩
  rw [if_neg k2] at h4
  by_cases k3 : r.kind = 3
  · rw [if_pos k3] at h4
    simp only [Rep.blankB, partsB, Bool.and_eq_true, decide_eq_true_eq, Bool.true_or, Bool.false_or, true_and] at h4
    obtain ⟨h5, ⟨h6, h8⟩, h7⟩ := h4
    exact ⟨h1, h2, h3, by omega, by omega, fun _ => ⟨h6.1, h6.2, h7, hall h8⟩, fun h => absurd k3 h, by omega, by omega, by omega, by omega, by omega, by omega, by omega, by omega⟩
  rw [if_neg k3] at h4
  by_cases k4 : r.kind = 4
  · rw [if_pos k4] at h4
    simp only [Rep.blankB, parcelB, spanB, Bool.and_eq_true, decide_eq_true_eq, Bool.true_or, Bool.false_or, true_and] at h4
    obtain ⟨⟨h5, h6⟩, h7⟩ := h4
    exact ⟨h1, h2, h3, by omega, by omega, by omega, fun _ => by simp_all, fun _ => h6, by omega, by omega, by omega, fun _ => h7, by omega, by omega, by omega⟩
  rw [if_neg k4] at h4
  by_cases k5 : r.kind = 5 ∨ r.kind = 6
  · rw [if_pos k5] at h4
    simp only [Rep.blankB, parcelB, partyB, Bool.and_eq_true, decide_eq_true_eq, Bool.true_or, Bool.false_or, true_and] at h4
    obtain ⟨⟨h5, h6⟩, h7⟩ := h4
    exact ⟨h1, h2, h3, by omega, by omega, by omega, fun _ => by simp_all, fun _ => h6, by omega, by omega, by omega, by omega, by omega, by omega, by omega⟩
  rw [if_neg k5] at h4
  by_cases k7 : r.kind = 7
  · rw [if_pos k7] at h4
    simp only [Rep.blankB, parcelB, Bool.and_eq_true, decide_eq_true_eq, Bool.true_or, Bool.false_or, true_and] at h4
    obtain ⟨⟨⟨h5, h6⟩, h8⟩, h7⟩ := h4
    exact ⟨h1, h2, h3, by omega, by omega, by omega, fun _ => by simp_all, fun _ => h6, by omega, fun _ => ⟨h8.1, h8.2, h7⟩, fun h => absurd k7 h, by omega, by omega, by omega, by omega⟩
  rw [if_neg k7] at h4
  by_cases k8 : r.kind = 8
  · rw [if_pos k8] at h4
    simp only [Rep.blankB, Bool.and_eq_true, decide_eq_true_eq, Bool.true_or, Bool.false_or, true_and] at h4
    obtain ⟨⟨h5, h6⟩, h7⟩ := h4
    exact ⟨h1, h2, h3, by omega, by omega, by omega, fun _ => by simp_all, by omega, by omega, by omega, by omega, by omega, by omega, by omega, fun _ => h7⟩
  · rw [if_neg k8] at h4
    cases h4
theorem snoc_ind {α : Type} {P : List α → Prop} (h0 : P []) (h1 : ∀ l x, P l → P (l ++ [x])) (l : List α) : P l := by
  have h : ∀ l : List α, P l.reverse := fun l => by
    induction l with
    | nil => exact h0
    | cons x l ih => rw [List.reverse_cons]; exact h1 _ _ ih
  have := h l.reverse
  rwa [List.reverse_reverse] at this
/-- A report with this Id is withdrawn by a void that is known. -/
def voided (l : List Rep) (k id : Int) : Bool := l.any fun y => decide (y.kind = 8) && decide (y.known ≤ k) && decide (y.of = id)
/-- The reports that count at an hour of knowledge. -/
def counting (l : List Rep) (k : Int) : List Rep := l.filter fun x => decide (x.kind ≠ 8) && decide (x.known ≤ k) && !voided l k x.id
def makerOf (L : List Rep) (p : Int) : Option Rep := L.find? fun r => decide (p ∈ r.makes)
def userOf (L : List Rep) (p : Int) : Option Rep := L.find? fun r => decide (p ∈ r.uses)
def thereB (L : List Rep) (p : Int) : Bool := (makerOf L p).isSome && (userOf L p).isNone
def hidStep (p : Int) (h : Bool) (r : Rep) : Bool := if r.parcel = p then (if r.kind = 5 then true else if r.kind = 6 then false else h) else h
/-- The last report that hid or showed a parcel hid it. -/
def hiddenB (L : List Rep) (p : Int) : Bool := L.foldl (hidStep p) false
def foundB (L : List Rep) (p : Int) : Bool := match makerOf L p with
  | some r => decide (r.kind = 1)
  | none => false
def goodsAt (L : List Rep) (p : Int) : ByteArray := match makerOf L p with
  | some r => r.goods
  | none => ByteArray.empty
/-- Why a report is not admissible behind counting ones. -/
def admits (L : List Rep) (x : Rep) : Int :=
  if x.touches.any (fun p => !thereB L p || (decide (x.kind = 7) && !foundB L p)) then 30
  else if x.touches.any (fun p => hiddenB L p != decide (x.kind = 6)) then 31
  else if L.any (fun y => decide (x.hour < y.hour) && x.touches.any (fun p => decide (y.names p))) then 7
  else if x.kind = 7 ∧ goodsAt L x.parcel ≠ goodsAt L x.other then 8 else 0
/-- Some report of a list names what a report names. -/
def laterB (x : Rep) (l : List Rep) : Bool := l.any fun y => (x.touches ++ x.makes).any fun p => decide (y.names p)
/-- Why a report may not be withdrawn. -/
def releases : List Rep → Int → Int
  | [], _ => 5
  | x :: l, of => if x.id = of then (if x.kind ≠ 4 ∧ laterB x l = true then 8 else 0) else releases l of
def lateB (l : List Rep) (x : Rep) : Bool := match l.getLast? with
  | some y => decide (x.known < y.known)
  | none => false
/-- Why a report is refused behind others. -/
def follows (l : List Rep) (x : Rep) : Int :=
  if 200 ≤ l.length then 2 else if x.wfB = false then 1 else if l.any (fun y => decide (y.id = x.id)) then 6 else if lateB l x then 7
  else if x.kind = 8 then releases (counting l x.known) x.of else admits (counting l x.known) x
def Valid (l : List Rep) : Prop := ∀ i (h : i < l.length), follows (l.take i) l[i] = 0
theorem Valid.nil : Valid [] := fun i h => by simp at h
theorem Valid.pre {a b : List Rep} (h : Valid (a ++ b)) : Valid a := fun i hi => by
  have := h i (by simp; omega)
  rwa [List.take_append_of_le_length (by omega), List.getElem_append_left hi] at this
theorem Valid.last {l : List Rep} {x : Rep} (h : Valid (l ++ [x])) : Valid l ∧ follows l x = 0 := by
  refine ⟨h.pre, ?_⟩
  have := h l.length (by simp)
  simpa using this
theorem Valid.snoc {l : List Rep} {x : Rep} (h : Valid l) (hx : follows l x = 0) : Valid (l ++ [x]) := fun i hi => by
  rcases Nat.lt_or_ge i l.length with hlt | hge
  · rw [List.take_append_of_le_length (by omega), List.getElem_append_left hlt]
    exact h i hlt
  · simp at hi
    obtain rfl : i = l.length := by omega
    simpa using hx
/-- What a report that is not refused has. -/
structure Fits (l : List Rep) (x : Rep) : Prop where
  len : l.length < 200
  wf : x.wfB = true
  id : ∀ y ∈ l, y.id ≠ x.id
  known : ∀ y, l.getLast? = some y → y.known ≤ x.known
  void : x.kind = 8 → releases (counting l x.known) x.of = 0
  other : x.kind ≠ 8 → admits (counting l x.known) x = 0
theorem admits_cases (L : List Rep) (x : Rep) : admits L x = 30 ∨ admits L x = 31 ∨ admits L x = 7 ∨ admits L x = 8 ∨ admits L x = 0 := by
  unfold admits
  repeat' split
  all_goals simp
theorem follows_ok {l : List Rep} {x : Rep} : follows l x = 0 ↔ Fits l x := by
  unfold follows
  constructor
  · intro h
    split at h
    · cases h
    split at h
    · cases h
    split at h
    · cases h
    split at h
    · cases h
    rename_i h1 h2 h3 h4
    refine ⟨by omega, by simpa using h2, fun y hy e => h3 (List.any_eq_true.2 ⟨y, hy, by simpa using e⟩), fun y hy => ?_, fun h8 => by rwa [if_pos h8] at h, fun h8 => by rwa [if_neg h8] at h⟩
    unfold lateB at h4
    rw [hy] at h4
    simpa using h4
  · intro h
    rw [if_neg (by have := h.len; omega), if_neg (by simp [h.wf]), if_neg, if_neg]
    · split
      · exact h.void ‹_›
      · exact h.other ‹_›
    · unfold lateB
      rcases e : l.getLast? with _ | y
      · simp
      · have := h.known y e
        simpa using this
    · intro h2
      obtain ⟨y, hy, e⟩ := List.any_eq_true.1 h2
      exact h.id y hy (by simpa using e)
theorem Valid.sorted {l : List Rep} : Valid l → l.Pairwise fun a b => a.known ≤ b.known := by
  refine snoc_ind (P := fun l => Valid l → l.Pairwise fun a b => a.known ≤ b.known) (fun _ => List.Pairwise.nil) (fun l x ih h => ?_) l
  obtain ⟨h1, h2⟩ := h.last
  have hs := ih h1
  have hf := (follows_ok.1 h2).known
  rw [List.pairwise_append]
  refine ⟨hs, by simp, fun a ha b hb => ?_⟩
  rw [List.mem_singleton] at hb
  subst hb
  rcases List.eq_nil_or_concat l with rfl | ⟨l', y, rfl⟩
  · simp at ha
  · rw [List.concat_eq_append] at ha hs hf
    have hy := hf y (by simp)
    rcases List.mem_append.1 ha with h3 | h3
    · have := (List.pairwise_append.1 hs).2.2 a h3 y (by simp)
      omega
    · rw [List.mem_singleton] at h3
      subst h3
      exact hy
theorem Valid.ids {l : List Rep} : Valid l → l.Pairwise fun a b => a.id ≠ b.id := by
  refine snoc_ind (P := fun l => Valid l → l.Pairwise fun a b => a.id ≠ b.id) (fun _ => List.Pairwise.nil) (fun l x ih h => ?_) l
  obtain ⟨h1, h2⟩ := h.last
  rw [List.pairwise_append]
  refine ⟨ih h1, by simp, fun a ha b hb => ?_⟩
  rw [List.mem_singleton] at hb
  subst hb
  exact (follows_ok.1 h2).id a ha
theorem Valid.wf {l : List Rep} (h : Valid l) : ∀ r ∈ l, r.wfB = true := fun r hr => by
  obtain ⟨i, hi, rfl⟩ := List.getElem_of_mem hr
  exact (follows_ok.1 (h i hi)).wf
theorem Valid.len {l : List Rep} (h : Valid l) : l.length ≤ 200 := by
  rcases Nat.eq_zero_or_pos l.length with h0 | h0
  · omega
  · have := (follows_ok.1 (h (l.length - 1) (by omega))).len
    simp at this
    omega
/-- What a counting report has behind those ahead of it. -/
structure Ok (pre : List Rep) (x : Rep) : Prop where
  wf : x.Wf
  kind : x.kind ≠ 8
  id : ∀ y ∈ pre, y.id ≠ x.id
  made : ∀ p ∈ x.touches, ∃ y ∈ pre, p ∈ y.makes
  free : ∀ p ∈ x.touches, ∀ y ∈ pre, p ∉ y.uses
  same : x.kind = 7 → ∀ p ∈ x.touches, ∃ y ∈ pre, p ∈ y.makes ∧ y.kind = 1
/-- Each report of a list is right behind those ahead of it. -/
def Sound (L : List Rep) : Prop := ∀ pre x post, L = pre ++ x :: post → Ok pre x
theorem Sound.nil : Sound [] := fun pre x post h => by simp at h
theorem Sound.snoc {L : List Rep} {x : Rep} (h : Sound L) (hx : Ok L x) : Sound (L ++ [x]) := fun pre y post e => by
  rcases List.eq_nil_or_concat post with rfl | ⟨post', z, rfl⟩
  · have := List.append_inj' e rfl
    obtain ⟨rfl, h2⟩ := this
    cases h2
    exact hx
  · have e2 : L ++ [x] = (pre ++ y :: post') ++ [z] := by rw [e]; simp
    have := List.append_inj' e2 rfl
    exact h pre y post' this.1
theorem Sound.pre {a b : List Rep} (h : Sound (a ++ b)) : Sound a := fun pre x post e => h pre x (post ++ b) (by rw [e]; simp)
theorem makes_four {x : Rep} (h : x.kind = 4) : x.makes = [] := by unfold Rep.makes; rw [if_neg (by omega), if_neg (by omega)]
theorem Sound.drop {A B : List Rep} {a : Rep} (h : Sound (A ++ a :: B)) (hr : a.kind = 4 ∨ laterB a B = false) : Sound (A ++ B) := fun pre x post e => by
  rcases List.append_eq_append_iff.1 e with ⟨c, hc, hB⟩ | ⟨c, hc, hB⟩
  · -- pre = A ++ c, B = c ++ x :: post
    subst hc
    have ho := h (A ++ a :: c) x post (by rw [hB]; simp)
    have hxB : x ∈ B := by rw [hB]; simp
    have hno : ∀ p ∈ x.touches, p ∉ a.makes := fun p hp hm => by
      rcases hr with h4 | hl
      · rw [makes_four h4] at hm; simp at hm
      · unfold laterB at hl
        rw [List.any_eq_false] at hl
        refine hl x hxB (List.any_eq_true.2 ⟨p, by simp [hm], decide_eq_true (.inl hp)⟩)
    refine ⟨ho.wf, ho.kind, fun y hy => ho.id y (by simp at hy ⊢; rcases hy with h | h <;> simp [h]), fun p hp => ?_, fun p hp y hy => ho.free p hp y (by simp at hy ⊢; rcases hy with h | h <;> simp [h]), fun h7 p hp => ?_⟩
    · obtain ⟨y, hy, hm⟩ := ho.made p hp
      simp only [List.mem_append, List.mem_cons] at hy
      rcases hy with h | rfl | h
      · exact ⟨y, by simp [h], hm⟩
      · exact absurd hm (hno p hp)
      · exact ⟨y, by simp [h], hm⟩
    · obtain ⟨y, hy, hm, hk⟩ := ho.same h7 p hp
      simp only [List.mem_append, List.mem_cons] at hy
      rcases hy with h | rfl | h
      · exact ⟨y, by simp [h], hm, hk⟩
      · exact absurd hm (hno p hp)
      · exact ⟨y, by simp [h], hm, hk⟩
  · -- A = pre ++ c, x :: post = c ++ B
    subst hc
    cases c with
    | nil =>
      simp at hB
      have ho := h (pre ++ [a]) x post (by simp [hB])
      have hxB : x ∈ B := by rw [← hB]; simp
      have hno : ∀ p ∈ x.touches, p ∉ a.makes := fun p hp hm => by
        rcases hr with h4 | hl
        · rw [makes_four h4] at hm; simp at hm
        · unfold laterB at hl
          rw [List.any_eq_false] at hl
          refine hl x hxB (List.any_eq_true.2 ⟨p, by simp [hm], decide_eq_true (.inl hp)⟩)
      refine ⟨ho.wf, ho.kind, fun y hy => ho.id y (by simp [hy]), fun p hp => ?_, fun p hp y hy => ho.free p hp y (by simp [hy]), fun h7 p hp => ?_⟩
      · obtain ⟨y, hy, hm⟩ := ho.made p hp
        simp only [List.mem_append, List.mem_singleton] at hy
        rcases hy with h | rfl
        · exact ⟨y, h, hm⟩
        · exact absurd hm (hno p hp)
      · obtain ⟨y, hy, hm, hk⟩ := ho.same h7 p hp
        simp only [List.mem_append, List.mem_singleton] at hy
        rcases hy with h | rfl
        · exact ⟨y, h, hm, hk⟩
        · exact absurd hm (hno p hp)
    | cons z c =>
      simp at hB
      obtain ⟨rfl, rfl⟩ := hB
      exact h pre x (c ++ a :: B) (by simp)
theorem maker_some {L : List Rep} {p : Int} {r : Rep} (h : makerOf L p = some r) : r ∈ L ∧ p ∈ r.makes := by
  unfold makerOf at h
  exact ⟨List.mem_of_find?_eq_some h, by simpa using List.find?_some h⟩
theorem maker_isSome {L : List Rep} {p : Int} : (makerOf L p).isSome = true ↔ ∃ y ∈ L, p ∈ y.makes := by
  unfold makerOf
  rw [List.find?_isSome]
  simp
theorem user_some {L : List Rep} {p : Int} {r : Rep} (h : userOf L p = some r) : r ∈ L ∧ p ∈ r.uses := by
  unfold userOf at h
  exact ⟨List.mem_of_find?_eq_some h, by simpa using List.find?_some h⟩
theorem user_isNone {L : List Rep} {p : Int} : (userOf L p).isNone = true ↔ ∀ y ∈ L, p ∉ y.uses := by
  unfold userOf
  rw [Option.isNone_iff_eq_none, List.find?_eq_none]
  simp
theorem admits_ok {L : List Rep} {x : Rep} (hw : x.Wf) (h8 : x.kind ≠ 8) (hid : ∀ y ∈ L, y.id ≠ x.id) (h : admits L x = 0) : Ok L x := by
  unfold admits at h
  split at h
  · cases h
  rename_i h1
  have h2 : ∀ p ∈ x.touches, thereB L p = true ∧ (x.kind = 7 → foundB L p = true) := fun p hp => by
    rw [List.any_eq_true] at h1
    have : ¬ (!thereB L p || decide (x.kind = 7) && !foundB L p) = true := fun e => h1 ⟨p, hp, e⟩
    simp at this
    exact this
  refine ⟨hw, h8, hid, fun p hp => ?_, fun p hp => ?_, fun h7 p hp => ?_⟩
  · have := (h2 p hp).1
    unfold thereB at this
    rw [Bool.and_eq_true] at this
    exact maker_isSome.1 this.1
  · have := (h2 p hp).1
    unfold thereB at this
    rw [Bool.and_eq_true] at this
    exact user_isNone.1 this.2
  · have := (h2 p hp).2 h7
    unfold foundB at this
    split at this
    · rename_i r hr
      obtain ⟨h3, h4⟩ := maker_some hr
      exact ⟨r, h3, h4, by simpa using this⟩
    · cases this
theorem releases_ok {of : Int} : ∀ {L : List Rep}, releases L of = 0 → ∃ A a B, L = A ++ a :: B ∧ a.id = of ∧ (∀ y ∈ A, y.id ≠ of) ∧ (a.kind = 4 ∨ laterB a B = false)
  | [], h => by unfold releases at h; cases h
  | x :: L, h => by
    unfold releases at h
    by_cases e : x.id = of
    · rw [if_pos e] at h
      split at h
      · cases h
      · rename_i h1
        refine ⟨[], x, L, rfl, e, by simp, ?_⟩
        by_cases h4 : x.kind = 4
        · exact .inl h4
        · right
          rcases hl : laterB x L with _ | _
          · rfl
          · exact absurd ⟨h4, hl⟩ h1
    · rw [if_neg e] at h
      obtain ⟨A, a, B, rfl, h1, h2, h3⟩ := releases_ok h
      exact ⟨x :: A, a, B, rfl, h1, fun y hy => by
        rcases List.mem_cons.1 hy with rfl | hy
        · exact e
        · exact h2 y hy, h3⟩
theorem voided_iff {l : List Rep} {k id : Int} : voided l k id = true ↔ ∃ y ∈ l, y.kind = 8 ∧ y.known ≤ k ∧ y.of = id := by
  unfold voided
  rw [List.any_eq_true]
  simp only [Bool.and_eq_true, decide_eq_true_eq, and_assoc]
theorem counting_mem {l : List Rep} {k : Int} {x : Rep} : x ∈ counting l k ↔ x ∈ l ∧ x.kind ≠ 8 ∧ x.known ≤ k ∧ voided l k x.id = false := by
  unfold counting
  rw [List.mem_filter]
  simp only [Bool.and_eq_true, decide_eq_true_eq, and_assoc, Bool.not_eq_true', decide_not, Bool.not_eq_eq_eq_not, Bool.not_true, decide_eq_false_iff_not]
theorem counting_same {l : List Rep} {k k' : Int} (h : ∀ y ∈ l, y.known ≤ k) (h' : ∀ y ∈ l, y.known ≤ k') : counting l k = counting l k' := by
  unfold counting
  refine List.filter_congr fun x hx => ?_
  have hv : voided l k x.id = voided l k' x.id := by
    rw [Bool.eq_iff_iff, voided_iff, voided_iff]
    exact ⟨fun ⟨y, a, b, _, c⟩ => ⟨y, a, b, h' y a, c⟩, fun ⟨y, a, b, _, c⟩ => ⟨y, a, b, h y a, c⟩⟩
  rw [hv, decide_eq_true (h x hx), decide_eq_true (h' x hx)]
theorem counting_pre {a b : List Rep} {k : Int} (h : ∀ y ∈ b, k < y.known) : counting (a ++ b) k = counting a k := by
  have hv : ∀ id, voided (a ++ b) k id = voided a k id := fun id => by
    rw [Bool.eq_iff_iff, voided_iff, voided_iff]
    refine ⟨fun ⟨y, hy, h1, h2, h3⟩ => ?_, fun ⟨y, hy, h1⟩ => ⟨y, by simp [hy], h1⟩⟩
    rcases List.mem_append.1 hy with hy | hy
    · exact ⟨y, hy, h1, h2, h3⟩
    · have := h y hy; omega
  unfold counting
  rw [List.filter_append]
  have hb : b.filter (fun x => decide (x.kind ≠ 8) && decide (x.known ≤ k) && !voided (a ++ b) k x.id) = [] := by
    rw [List.filter_eq_nil_iff]
    intro x hx
    have := h x hx
    simp [show ¬ x.known ≤ k by omega]
  rw [hb, List.append_nil]
  exact List.filter_congr fun x _ => by rw [hv]
theorem Valid.known_le {l : List Rep} {x : Rep} (h : Valid (l ++ [x])) : ∀ y ∈ l, y.known ≤ x.known := fun y hy => (List.pairwise_append.1 h.sorted).2.2 y hy x (by simp)
/-- What counts when all is known is right; each void has its report. -/
theorem Valid.live {l : List Rep} : Valid l → ∀ k, (∀ y ∈ l, y.known ≤ k) → Sound (counting l k) ∧ ∀ v ∈ l, v.kind = 8 → ∃ y ∈ l, y.id = v.of ∧ y.kind ≠ 8 := by
  refine snoc_ind (P := fun l => Valid l → ∀ k, (∀ y ∈ l, y.known ≤ k) → Sound (counting l k) ∧ ∀ v ∈ l, v.kind = 8 → ∃ y ∈ l, y.id = v.of ∧ y.kind ≠ 8) (fun _ _ _ => ⟨Sound.nil, fun v hv => by simp at hv⟩) (fun l x ih h k hk => ?_) l
  obtain ⟨h1, h2⟩ := h.last
  have hf := follows_ok.1 h2
  have hle := h.known_le
  have hkl : ∀ y ∈ l, y.known ≤ k := fun y hy => hk y (by simp [hy])
  have hkx : x.known ≤ k := hk x (by simp)
  obtain ⟨hs, hv⟩ := ih h1 k hkl
  have hck : counting l x.known = counting l k := counting_same hle hkl
  by_cases h8 : x.kind = 8
  · have hr := hf.void h8
    rw [hck] at hr
    obtain ⟨A, a, B, hL, ha, hA, hB⟩ := releases_ok hr
    have hmem : a ∈ counting l k := by rw [hL]; simp
    have hml := counting_mem.1 hmem
    have hids := (h1.ids.sublist (l₁ := counting l k) List.filter_sublist)
    rw [hL] at hids
    have e : counting (l ++ [x]) k = A ++ B := by
      have e1 : counting (l ++ [x]) k = (counting l k).filter fun y => decide (y.id ≠ x.of) := by
        unfold counting
        rw [List.filter_append, List.filter_filter]
        have : [x].filter (fun y => decide (y.kind ≠ 8) && decide (y.known ≤ k) && !voided (l ++ [x]) k y.id) = [] := by simp [h8]
        rw [this, List.append_nil]
        refine List.filter_congr fun y hy => ?_
        have : voided (l ++ [x]) k y.id = (voided l k y.id || decide (x.of = y.id)) := by
          rw [Bool.eq_iff_iff, Bool.or_eq_true, voided_iff, voided_iff, decide_eq_true_eq]
          constructor
          · rintro ⟨z, hz, h3, h4, h5⟩
            rcases List.mem_append.1 hz with hz | hz
            · exact .inl ⟨z, hz, h3, h4, h5⟩
            · rw [List.mem_singleton] at hz
              subst hz
              exact .inr h5
          · rintro (⟨z, hz, h3⟩ | h3)
            · exact ⟨z, by simp [hz], h3⟩
            · exact ⟨x, by simp, h8, hkx, h3⟩
        rw [this]
        by_cases h9 : y.id = x.of
        · simp [h9]
        · have h10 : ¬ x.of = y.id := fun e => h9 e.symm
          simp only [h9, h10, decide_false, Bool.or_false, not_false_eq_true, decide_true, ne_eq, Bool.true_and, decide_not]
      rw [e1, hL, List.filter_append, List.filter_cons]
      have hA2 : A.filter (fun y => decide (y.id ≠ x.of)) = A := List.filter_eq_self.2 fun y hy => decide_eq_true (hA y hy)
      have hB2 : B.filter (fun y => decide (y.id ≠ x.of)) = B := List.filter_eq_self.2 fun y hy => decide_eq_true (fun e => by
        have := (List.pairwise_cons.1 (List.pairwise_append.1 hids).2.1).1 y hy
        exact this (by rw [ha, e]))
      rw [hA2, hB2]
      simp [ha]
    rw [e]
    rw [hL] at hs
    refine ⟨hs.drop hB, fun v hvm hv8 => ?_⟩
    rcases List.mem_append.1 hvm with h3 | h3
    · obtain ⟨y, hy, h4⟩ := hv v h3 hv8
      exact ⟨y, by simp [hy], h4⟩
    · rw [List.mem_singleton] at h3
      subst h3
      exact ⟨a, by simp [hml.1], ha, hml.2.1⟩
  · have hvx : ∀ id, voided (l ++ [x]) k id = voided l k id := fun id => by
      rw [Bool.eq_iff_iff, voided_iff, voided_iff]
      refine ⟨fun ⟨y, hy, h3, h4⟩ => ?_, fun ⟨y, hy, h3⟩ => ⟨y, by simp [hy], h3⟩⟩
      rcases List.mem_append.1 hy with hy | hy
      · exact ⟨y, hy, h3, h4⟩
      · rw [List.mem_singleton] at hy
        subst hy
        exact absurd h3 h8
    have hnv : voided l k x.id = false := by
      rcases e : voided l k x.id with _ | _
      · rfl
      · obtain ⟨y, hy, h3, _, h5⟩ := voided_iff.1 e
        obtain ⟨z, hz, h6, _⟩ := hv y hy h3
        exact absurd (h6.trans h5) (hf.id z hz)
    have e : counting (l ++ [x]) k = counting l k ++ [x] := by
      unfold counting
      rw [List.filter_append]
      congr 1
      · exact List.filter_congr fun y _ => by rw [hvx]
      · simp [h8, hkx, hvx, hnv]
    rw [e]
    have hadm := hf.other h8
    rw [hck] at hadm
    refine ⟨hs.snoc (admits_ok (Rep.wf hf.wf) h8 (fun y hy => hf.id y (counting_mem.1 hy).1) hadm), fun v hvm hv8 => ?_⟩
    rcases List.mem_append.1 hvm with h3 | h3
    · obtain ⟨y, hy, h4⟩ := hv v h3 hv8
      exact ⟨y, by simp [hy], h4⟩
    · rw [List.mem_singleton] at h3
      subst h3
      exact absurd hv8 h8
theorem sorted_split (k : Int) : ∀ {l : List Rep}, l.Pairwise (fun a b => a.known ≤ b.known) → ∃ a b, l = a ++ b ∧ (∀ y ∈ a, y.known ≤ k) ∧ ∀ y ∈ b, k < y.known
  | [], _ => ⟨[], [], rfl, by simp, by simp⟩
  | x :: l, h => by
    rw [List.pairwise_cons] at h
    obtain ⟨a, b, rfl, h1, h2⟩ := sorted_split k h.2
    by_cases hx : x.known ≤ k
    · exact ⟨x :: a, b, rfl, fun y hy => by
        rcases List.mem_cons.1 hy with rfl | hy
        · exact hx
        · exact h1 y hy, h2⟩
    · refine ⟨[], x :: (a ++ b), rfl, by simp, fun y hy => ?_⟩
      rcases List.mem_cons.1 hy with rfl | hy
      · omega
      · have := h.1 y hy; omega
/-- What counts in a valid list is right, at each hour of knowledge. -/
theorem Valid.sound {l : List Rep} (h : Valid l) (k : Int) : Sound (counting l k) := by
  obtain ⟨a, b, rfl, h1, h2⟩ := sorted_split k h.sorted
  rw [counting_pre h2]
  exact (h.pre.live k h1).1
end
section
open Go.RowKit
set_option linter.unusedSimpArgs false
/-- What every kind has. -/
def Rep.base (r : Rep) : Rep := ⟨r.id, r.known, r.hour, r.kind, 0, 0, [], 0, .empty, .empty, 0, 0, 0, 0, 0⟩
/-- What a report of its kind has, the rest nought. -/
def Rep.want (r : Rep) : Rep :=
  if r.kind = 1 then ⟨r.id, r.known, r.hour, r.kind, 0, 0, [], r.cell, r.mark, r.goods, r.lo, r.hi, r.party, 0, 0⟩
  else if r.kind = 2 then ⟨r.id, r.known, r.hour, r.kind, r.parcel, r.count, [], 0, .empty, .empty, 0, 0, 0, 0, 0⟩
  else if r.kind = 3 then ⟨r.id, r.known, r.hour, r.kind, 0, 0, r.parts, 0, .empty, .empty, 0, 0, 0, 0, 0⟩
  else if r.kind = 4 then ⟨r.id, r.known, r.hour, r.kind, r.parcel, 0, [], 0, .empty, .empty, r.lo, r.hi, 0, 0, 0⟩
  else if r.kind = 5 ∨ r.kind = 6 then ⟨r.id, r.known, r.hour, r.kind, r.parcel, 0, [], 0, .empty, .empty, 0, 0, r.party, 0, 0⟩
  else if r.kind = 7 then ⟨r.id, r.known, r.hour, r.kind, r.parcel, 0, [], 0, .empty, .empty, 0, 0, 0, r.other, 0⟩
  else if r.kind = 8 then ⟨r.id, r.known, r.hour, r.kind, 0, 0, [], 0, .empty, .empty, 0, 0, 0, 0, r.of⟩
  else r.base
/-- Whether what it has is right. -/
def Rep.okB (r : Rep) : Bool :=
  if r.kind = 1 then decide (0 ≤ r.hour ∧ r.hour ≤ r.known) && decide (0 ≤ r.cell ∧ r.cell ≤ 39) && markB r.mark && nameB r.goods && spanB r.lo r.hi && partyB r.party
  else if r.kind = 2 then decide (0 ≤ r.hour ∧ r.hour ≤ r.known) && parcelB r.parcel && decide (2 ≤ r.count ∧ r.count ≤ 8)
  else if r.kind = 3 then decide (0 ≤ r.hour ∧ r.hour ≤ r.known) && partsB r.parts
  else if r.kind = 4 then decide (0 ≤ r.hour ∧ r.hour ≤ r.known) && parcelB r.parcel && spanB r.lo r.hi
  else if r.kind = 5 ∨ r.kind = 6 then decide (0 ≤ r.hour ∧ r.hour ≤ r.known) && parcelB r.parcel && partyB r.party
  else if r.kind = 7 then decide (0 ≤ r.hour ∧ r.hour ≤ r.known) && parcelB r.parcel && parcelB r.other && decide (r.parcel ≠ r.other)
  else if r.kind = 8 then decide (r.hour = 0) && decide (1 ≤ r.of ∧ r.of ≤ 1000000) && decide (r.of ≠ r.id)
  else false
theorem size_empty {s : ByteArray} : s.size = 0 ↔ s = .empty := by
  constructor
  · intro h
    cases s with
    | mk d =>
      have : d = #[] := Array.size_eq_zero_iff.1 h
      subst this
      rfl
  · rintro rfl
    rfl
/-- A report is well-formed when it has what it should, and that is right. -/
theorem Rep.wfB_want (r : Rep) : r.wfB = (r.okB && decide (r = r.want) && decide (1 ≤ r.id ∧ r.id ≤ 1000000) && decide (0 ≤ r.known ∧ r.known ≤ 1000000)) := by
  obtain ⟨id, known, hour, kind, parcel, count, parts, cell, mark, goods, lo, hi, party, other, of⟩ := r
  rw [Bool.eq_iff_iff]
  unfold Rep.wfB Rep.kindB Rep.okB Rep.want Rep.blankB Rep.base
  simp only
  by_cases k1 : kind = 1
  · simp [k1, size_empty]; grind
  by_cases k2 : kind = 2
  · simp [k2, size_empty]; grind
  by_cases k3 : kind = 3
  · simp [k3, size_empty]; grind
  by_cases k4 : kind = 4
  · simp [k4, size_empty]; grind
  by_cases k5 : kind = 5
  · simp [k5, size_empty]; grind
  by_cases k6 : kind = 6
  · simp [k6, size_empty]; grind
  by_cases k7 : kind = 7
  · simp [k7, size_empty]; grind
  by_cases k8 : kind = 8
  · simp [k8, size_empty]; grind
  simp [k1, k2, k3, k4, k5, k6, k7, k8]
end
end Go.Proofs.YtfaoillnakhejaaGreat
