/- May, Through, Refuse and Within, each in one form for whatever comes (for MatchMay). -/
import Derived.Test.YtpmdjbjnihhjeaaAllOf
import Derived.Test.YtpmdjbjnihhjeaaRefDeny
import Derived.Test.YtpmdjbjnihhjeaaWithin
import Derived.Test.YtpmdjbjnihhjeaaEitherLaw
import Derived.Test.YtpmdjbjnihhjeaaFew
import Derived.IntWalk
set_option linter.unusedSimpArgs false
namespace Go.Proofs.Ytpmdjbjnihhjeaa
open Go.RowKit
theorem rise_lenM {l : List Int} {n : Nat} (h : Rise l 0 ((n : Int) - 1)) : l.length ≤ n := by
  obtain ⟨hp, hb⟩ := rise_iff.1 h
  have h1 := length_sum n l hp (fun x hx => hb x hx)
  have h2 : sumTo (fun i => if (i : Int) ∈ l then 1 else 0) n ≤ sumTo (fun _ => 1) n := sumTo_le fun i _ => by split <;> omega
  have h3 : ∀ n : Nat, sumTo (fun _ => 1) n = n := fun n => by
    induction n with
    | zero => rfl
    | succ n ih => show sumTo _ n + 1 = _; rw [ih]; omega
  have := h3 n
  omega
open Classical in
/-- The error of what asks for an assignment, behind the error k of what is asked. -/
noncomputable def errOf (b : Board) (k : Int) : Int := if k ≠ 0 then k else if ∃ a, b.As a then 0 else 40
theorem errOf_ask {b : Board} {k : Int} (h : k ≠ 0) : errOf b k = k := by unfold errOf; rw [if_pos h]
theorem errOf_no {b : Board} (h : ¬ ∃ a, b.As a) : errOf b 0 = 40 := by unfold errOf; rw [if_neg (by simp), if_neg h]
theorem errOf_ok {b : Board} (h : ∃ a, b.As a) : errOf b 0 = 0 := by unfold errOf; rw [if_neg (by simp), if_pos h]

def MayU (b : Board) (f s : Int) (k : Int) (w : World) (e : Ending) (w' : World) : Prop :=
  Below w.heap.size w w' ∧ ∃ m : Bool, e = .returned (.tuple #[.bool m, .int .i64 k]) ∧ (k ≠ 0 → m = false) ∧ (k = 0 → m = canB b.fits (pieces b.slots) f.toNat s)
theorem may_u (b : Board) (Af As At : Option Addr) (cf cs ct : Nat) (w : World) (hs : b.small) (hB : BoardAt w Af As At b) (f s : Int) {k : Int} (hk : errOf b (askOf b f s false false) = k) :
    Calls Try.prog 29 #[.agg #[.slice Af b.finds.length cf, .slice As b.slots.length cs, .slice At b.fits.length ct], .int .i64 f, .int .i64 s] w (MayU b f s k w) := by
  refine (may_any b Af As At cf cs ct w hs hB f s).mono ?_
  rintro e w' ⟨hb, ⟨h0, rfl⟩ | ⟨h0, h1, rfl⟩ | ⟨h0, h1, rfl⟩⟩
  · rw [errOf_ask h0] at hk
    subst hk
    exact ⟨hb, false, rfl, fun _ => rfl, fun h => absurd h h0⟩
  · rw [h0, errOf_no h1] at hk
    subst hk
    exact ⟨hb, false, rfl, fun _ => rfl, fun h => absurd h (by decide)⟩
  · rw [h0, errOf_ok h1] at hk
    subst hk
    exact ⟨hb, _, rfl, fun h => absurd rfl h, fun _ => rfl⟩
def ThroughU (b : Board) (f s : Int) (k : Int) (w : World) (e : Ending) (w' : World) : Prop :=
  Below w.heap.size w w' ∧ ∃ (A : Option Addr) (c : Nat) (t : List Int) (m : Bool), e = .returned (.tuple #[.slice A t.length c, .bool m, .int .i64 k]) ∧ IntsAt w' A t ∧ t.length ≤ 70 ∧ (k ≠ 0 → m = false ∧ t = []) ∧
    (k = 0 → m = canB b.fits (pieces b.slots) f.toNat s ∧ (m = true → b.As t ∧ hasOf t f.toNat = s) ∧ (m = false → t = []))
theorem through_u (b : Board) (Af As At : Option Addr) (cf cs ct : Nat) (w : World) (hs : b.small) (hB : BoardAt w Af As At b) (f s : Int) {k : Int} (hk : errOf b (askOf b f s false false) = k) :
    Calls Try.prog 30 #[.agg #[.slice Af b.finds.length cf, .slice As b.slots.length cs, .slice At b.fits.length ct], .int .i64 f, .int .i64 s] w (ThroughU b f s k w) := by
  refine (through_any b Af As At cf cs ct w hs hB f s).mono ?_
  rintro e w' ⟨hb, ⟨h0, rfl⟩ | ⟨h0, h1, rfl⟩ | ⟨h0, h1, ⟨A, c, a, rfl, hA, ha, he⟩ | ⟨rfl, hn⟩⟩⟩
  · rw [errOf_ask h0] at hk
    subst hk
    exact ⟨hb, none, 0, [], false, rfl, IntsAt.nil _ _, by simp, fun _ => ⟨rfl, rfl⟩, fun h => absurd h h0⟩
  · rw [h0, errOf_no h1] at hk
    subst hk
    exact ⟨hb, none, 0, [], false, rfl, IntsAt.nil _ _, by simp, fun _ => ⟨rfl, rfl⟩, fun h => absurd h (by decide)⟩
  · rw [h0, errOf_ok h1] at hk
    subst hk
    exact ⟨hb, A, c, a, true, rfl, hA, by rw [ha.len]; exact hs.2.2.1, fun h => absurd rfl h, fun _ => ⟨(canB_true.2 ⟨a, ha, he⟩).symm, fun _ => ⟨ha, he⟩, fun h => absurd h (by decide)⟩⟩
  · rw [h0, errOf_ok h1] at hk
    subst hk
    refine ⟨hb, none, 0, [], false, rfl, IntsAt.nil _ _, by simp, fun h => absurd rfl h, fun _ => ⟨?_, fun h => absurd h (by decide), fun _ => rfl⟩⟩
    rcases e : canB b.fits (pieces b.slots) f.toNat s with _ | _
    · rfl
    · obtain ⟨a, ha, he⟩ := canB_true.1 e
      exact absurd he (hn a ha)
/-- Some denial is right. -/
def Denies (b : Board) (f : Nat) (s : Int) (H : List Int) : Prop := (s ∉ fitOf b.fits f ∧ H = []) ∨ (s ∈ fitOf b.fits f ∧ Denial b f s H)
def RefuseU (b : Board) (f s : Int) (k : Int) (w : World) (e : Ending) (w' : World) : Prop :=
  Below w.heap.size w w' ∧ ∃ (A : Option Addr) (c : Nat) (r : List Int) (m : Bool), e = .returned (.tuple #[.slice A r.length c, .bool m, .int .i64 k]) ∧ IntsAt w' A r ∧ r.length ≤ 80 ∧ (k ≠ 0 → m = false ∧ r = []) ∧
    (k = 0 → m = !canB b.fits (pieces b.slots) f.toNat s ∧ (m = false → r = []) ∧ (m = true → Denies b f.toNat s r))
theorem refuse_u (b : Board) (Af As At : Option Addr) (cf cs ct : Nat) (w : World) (hs : b.small) (hB : BoardAt w Af As At b) (f s : Int) (hin : b.check = 0 → askOf b f s false false = 0 → 0 ≤ s ∧ s < b.slots.length) {k : Int} (hk : errOf b (askOf b f s false false) = k) :
    Calls Try.prog 31 #[.agg #[.slice Af b.finds.length cf, .slice As b.slots.length cs, .slice At b.fits.length ct], .int .i64 f, .int .i64 s] w (RefuseU b f s k w) := by
  have hn3 := hs.2.2.1
  refine (refuse_any b Af As At cf cs ct w hs hB f s).mono ?_
  rintro e w' ⟨hb, ⟨h0, rfl⟩ | ⟨h0, h1, rfl⟩ | ⟨h0, h1, ⟨hm, rfl⟩ | ⟨hm, ⟨a, ha, he⟩, rfl⟩ | ⟨hm, H, A, c, rfl, hH, hD⟩⟩⟩
  · rw [errOf_ask h0] at hk
    subst hk
    exact ⟨hb, none, 0, [], false, rfl, IntsAt.nil _ _, by simp, fun _ => ⟨rfl, rfl⟩, fun h => absurd h h0⟩
  · rw [h0, errOf_no h1] at hk
    subst hk
    exact ⟨hb, none, 0, [], false, rfl, IntsAt.nil _ _, by simp, fun _ => ⟨rfl, rfl⟩, fun h => absurd h (by decide)⟩
  all_goals
    rw [h0, errOf_ok h1] at hk
    subst hk
    have hin := hin (askOf_ok h0) h0
  · refine ⟨hb, none, 0, [], true, rfl, IntsAt.nil _ _, by simp, fun h => absurd rfl h, fun _ => ⟨?_, fun h => absurd h (by decide), fun _ => .inl ⟨hm, rfl⟩⟩⟩
    rcases e : canB b.fits (pieces b.slots) f.toNat s with _ | _
    · rfl
    · obtain ⟨a, ha, he⟩ := canB_true.1 e
      exfalso
      by_cases hf : fitOf b.fits f.toNat = []
      · have := ha.nobody _ hf; omega
      · exact hm (he ▸ ha.fit _ hf)
  · refine ⟨hb, none, 0, [], false, rfl, IntsAt.nil _ _, by simp, fun h => absurd rfl h, fun _ => ⟨?_, fun _ => rfl, fun h => absurd h (by decide)⟩⟩
    rw [canB_true.2 ⟨a, ha, he⟩]; rfl
  · refine ⟨hb, A, c, H, true, rfl, hH, by have := rise_lenM hD.short.rise; omega, fun h => absurd rfl h, fun _ => ⟨?_, fun h => absurd h (by decide), fun _ => .inr ⟨hm, hD⟩⟩⟩
    rcases e : canB b.fits (pieces b.slots) f.toNat s with _ | _
    · rfl
    · obtain ⟨a, ha, he⟩ := canB_true.1 e
      exact absurd he (hD.no (askOf_ok h0) hin.1 hin.2 ha)
open Classical in
noncomputable def errW (b : Board) (f : Int) (L : List Int) : Int := if askOf b f 0 false true ≠ 0 then askOf b f 0 false true else if Rise L 0 ((b.slots.length : Int) - 1) then errOf b 0 else 1
theorem errW_ask {b : Board} {f : Int} {L : List Int} (h : askOf b f 0 false true ≠ 0) : errW b f L = askOf b f 0 false true := by unfold errW; rw [if_pos h]
theorem errW_bad {b : Board} {f : Int} {L : List Int} (h : askOf b f 0 false true = 0) (h2 : ¬ Rise L 0 ((b.slots.length : Int) - 1)) : errW b f L = 1 := by unfold errW; rw [if_neg (by simp [h]), if_neg h2]
theorem errW_in {b : Board} {f : Int} {L : List Int} (h : askOf b f 0 false true = 0) (h2 : Rise L 0 ((b.slots.length : Int) - 1)) : errW b f L = errOf b 0 := by unfold errW; rw [if_neg (by simp [h]), if_pos h2]
def WithinU (b : Board) (f : Int) (L : List Int) (k : Int) (w : World) (e : Ending) (w' : World) : Prop :=
  Below w.heap.size w w' ∧ ∃ m : Bool, e = .returned (.tuple #[.bool m, .int .i64 k]) ∧ (k ≠ 0 → m = false) ∧ (k = 0 → m = withinB b f.toNat L)
theorem within_u (b : Board) (Af As At Al : Option Addr) (cf cs ct cl : Nat) (f : Int) (L : List Int) (w : World) (hs : b.small) (hl : L.length ≤ 80) (hB : BoardAt w Af As At b) (hL : IntsAt w Al L) {k : Int} (hk : errW b f L = k) :
    Calls Try.prog 32 #[.agg #[.slice Af b.finds.length cf, .slice As b.slots.length cs, .slice At b.fits.length ct], .int .i64 f, .slice Al L.length cl] w (WithinU b f L k w) := by
  refine (within_any b Af As At Al cf cs ct cl f L w hs hl hB hL).mono ?_
  rintro e w' ⟨hb, ⟨h0, rfl⟩ | ⟨h0, h1, rfl⟩ | ⟨h0, h1, h2, rfl⟩ | ⟨h0, h1, h2, rfl⟩⟩
  · rw [errW_ask h0] at hk
    subst hk
    exact ⟨hb, false, rfl, fun _ => rfl, fun h => absurd h h0⟩
  · rw [errW_bad h0 h1] at hk
    subst hk
    exact ⟨hb, false, rfl, fun _ => rfl, fun h => absurd h (by decide)⟩
  · rw [errW_in h0 h1, errOf_no h2] at hk
    subst hk
    exact ⟨hb, false, rfl, fun _ => rfl, fun h => absurd h (by decide)⟩
  · rw [errW_in h0 h1, errOf_ok h2] at hk
    subst hk
    exact ⟨hb, _, rfl, fun h => absurd rfl h, fun _ => rfl⟩
theorem ask_out2 {b : Board} {f s : Int} (h : b.check = 0) (ho : f < 0 ∨ (b.finds.length : Int) ≤ f ∨ s < 0 ∨ (b.slots.length : Int) ≤ s) : askOf b f s false false = 1 := by
  unfold askOf
  rw [if_pos h, if_pos]
  simp only [Bool.not_false, Bool.true_and, Bool.or_eq_true, Bool.not_eq_true', inB, Bool.and_eq_false_iff, decide_eq_false_iff_not]
  omega
theorem ask_in2 {b : Board} {f s : Int} (h : b.check = 0) (h1 : 0 ≤ f) (h2 : f < b.finds.length) (h3 : 0 ≤ s) (h4 : s < b.slots.length) : askOf b f s false false = 0 := by
  unfold askOf
  rw [if_pos h, if_neg]
  simp only [Bool.not_false, Bool.true_and, Bool.or_eq_true, Bool.not_eq_true', inB, Bool.and_eq_false_iff, decide_eq_false_iff_not]
  omega
theorem ask_in2' {b : Board} {f s : Int} (h : b.check = 0) (h2 : askOf b f s false false = 0) : 0 ≤ s ∧ s < b.slots.length := by
  by_cases ho : f < 0 ∨ (b.finds.length : Int) ≤ f ∨ s < 0 ∨ (b.slots.length : Int) ≤ s
  · rw [ask_out2 h ho] at h2
    cases h2
  · omega
theorem askW_out {b : Board} {f : Int} (h : b.check = 0) (ho : f < 0 ∨ (b.finds.length : Int) ≤ f) : askOf b f 0 false true = 1 := by
  unfold askOf
  rw [if_pos h, if_pos]
  simp only [Bool.not_false, Bool.true_and, Bool.not_true, Bool.false_and, Bool.or_false, Bool.not_eq_true', inB, Bool.and_eq_false_iff, decide_eq_false_iff_not]
  omega
theorem askW_in {b : Board} {f : Int} (h : b.check = 0) (h1 : 0 ≤ f) (h2 : f < b.finds.length) : askOf b f 0 false true = 0 := by
  unfold askOf
  rw [if_pos h, if_neg]
  simp only [Bool.not_false, Bool.true_and, Bool.not_true, Bool.false_and, Bool.or_false, Bool.not_eq_true', inB, Bool.and_eq_false_iff, decide_eq_false_iff_not]
  omega
theorem rise_step {l : List Int} {m : Int} {k : Nat} (h : k < l.length) : decide (RiseTo l 0 m (k + 1)) = (decide (RiseTo l 0 m k) && (decide (0 ≤ l[k]) && (decide (l[k] ≤ m) && decide (0 < k → l[k - 1] < l[k])))) := by
  rw [Bool.eq_iff_iff]
  simp only [Bool.and_eq_true, decide_eq_true_eq]
  constructor
  · intro hr
    have h1 := hr k h (by omega)
    exact ⟨fun j hj hk => hr j hj (by omega), h1.1, h1.2.1, h1.2.2⟩
  · rintro ⟨h1, h2, h3, h4⟩
    exact h1.succ h h2 h3 h4
/-- The reference accepts a denial that is right. -/
theorem refDeny_true (b : Board) (Af As At Al : Option Addr) (cf cs ct cl : Nat) (f : Nat) (s : Int) (H : List Int) (w : World) (hs : b.small) (hl : H.length ≤ 80) (hB : BoardAt w Af As At b) (hL : IntsAt w Al H) (ha : askOf b f s false false = 0) (hd : Denies b f s H) :
    Calls Try.prog 35 #[.agg #[.slice Af b.finds.length cf, .slice As b.slots.length cs, .slice At b.fits.length ct], .int .i64 f, .int .i64 s, .slice Al H.length cl] w fun e w' => e = .returned (.tuple #[.bool true, .int .i64 0]) ∧ Below w.heap.size w w' := by
  refine (refRefuse_any b Af As At Al cf cs ct cl f s H w hs hl hB hL).mono ?_
  rintro e w' ⟨hb, hp⟩
  rw [Int.toNat_natCast] at hp
  rcases hd with ⟨hm, rfl⟩ | ⟨hm, hD⟩
  · rcases hp with ⟨h0, _⟩ | ⟨_, _, rfl⟩ | ⟨_, h1, _⟩
    · exact absurd ha h0
    · exact ⟨rfl, hb⟩
    · exact absurd h1 hm
  · rcases hp with ⟨h0, _⟩ | ⟨_, h1, _⟩ | ⟨_, _, rfl⟩
    · exact absurd ha h0
    · exact absurd hm h1
    · rw [denied_iff.2 hD]
      exact ⟨rfl, hb⟩
/-- What the reference says of a denial, whatever it is. -/
theorem refDeny_some (b : Board) (Af As At Al : Option Addr) (cf cs ct cl : Nat) (f : Nat) (s : Int) (H : List Int) (w : World) (hs : b.small) (hl : H.length ≤ 80) (hB : BoardAt w Af As At b) (hL : IntsAt w Al H) :
    Calls Try.prog 35 #[.agg #[.slice Af b.finds.length cf, .slice As b.slots.length cs, .slice At b.fits.length ct], .int .i64 f, .int .i64 s, .slice Al H.length cl] w fun e w' => ∃ (t : Bool) (k : Int), e = .returned (.tuple #[.bool t, .int .i64 k]) ∧ Below w.heap.size w w' := by
  refine (refRefuse_any b Af As At Al cf cs ct cl f s H w hs hl hB hL).mono ?_
  rintro e w' ⟨hb, ⟨_, rfl⟩ | ⟨_, _, rfl⟩ | ⟨_, _, rfl⟩⟩
  all_goals exact ⟨_, _, rfl, hb⟩
theorem rise_fin {x y m : Int} {k : Nat} {v : Bool} (h0 : 0 ≤ x) (h1 : x ≤ m) (hk : k ≠ 0) (hv : decide (y < x) = v) : v = (true && (decide (0 ≤ x) && (decide (x ≤ m) && decide (0 < k → y < x)))) := by
  subst hv
  have : (0 < k → y < x) ↔ y < x := ⟨fun h => h (by omega), fun h _ => h⟩
  simp [h0, h1, this]
theorem can_chanceM {b : Board} {f : Nat} {s : Int} (hs : 0 ≤ s) : canB b.fits (pieces b.slots) f s = decide (s ∈ chancesOf b.fits (pieces b.slots) f) := by
  rw [Bool.eq_iff_iff, decide_eq_true_eq]
  unfold chancesOf
  rw [List.mem_filter]
  refine ⟨fun h => ⟨?_, h⟩, fun h => h.2⟩
  obtain ⟨a, ha, e⟩ := canB_true.1 h
  have hf : fitOf b.fits f ≠ [] := fun e2 => by have := ha.nobody f e2; omega
  have := ha.fit f hf
  rwa [e] at this
def allInM (L l2 : List Int) : Bool := L.all (fun x => decide (x ∈ l2))
theorem within_stepM {L l2 : List Int} {k : Nat} {q r : Bool} (h : k < L.length) (hq : q = (decide (0 < L.length) && allInM (L.take k) l2)) (hr : decide (L[k] ∈ l2) = r) :
    (q && r) = (decide (0 < L.length) && allInM (L.take (k + 1)) l2) := by
  rw [hq, ← hr, Bool.and_assoc]
  congr 1
  unfold allInM
  rw [List.take_succ_eq_append_getElem h, List.all_append]
  simp
theorem within_allM {b : Board} {f : Nat} {l2 : List Int} : withinB b f l2 = (decide (0 < (chancesOf b.fits (pieces b.slots) f).length) && allInM (chancesOf b.fits (pieces b.slots) f) l2) := by
  unfold withinB
  congr 1
  apply Bool.eq_iff_iff.2
  unfold allInM
  rw [decide_eq_true_eq, List.all_eq_true]
  exact ⟨fun h x hx => decide_eq_true (h x hx), fun h x hx => of_decide_eq_true (h x hx)⟩
end Go.Proofs.Ytpmdjbjnihhjeaa
