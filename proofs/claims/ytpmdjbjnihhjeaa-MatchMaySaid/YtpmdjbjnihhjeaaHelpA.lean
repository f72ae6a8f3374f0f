import Derived.Test.YtpmdjbjnihhjeaaBase
namespace Go.Proofs.Ytpmdjbjnihhjeaa
open Go.RowKit

def inB (n a b : Int) : Bool := decide (a ≤ n) && decide (n ≤ b)

set_option maxHeartbeats 400000 in
theorem in_any (n a b : Int) (w : World) : Calls Try.prog 82 #[.int .i64 n, .int .i64 a, .int .i64 b] w fun e w' => e = .returned (.bool (inB n a b)) ∧ w = w' := by
  by_cases h1 : a ≤ n
  · by_cases h2 : n ≤ b
    all_goals
      go_enter Try.func82, Try.ntmps82
      go_wp2
      go_ret
      exact ⟨ret_bool (by simp [inB]; omega), rfl⟩
  · go_enter Try.func82, Try.ntmps82
    go_wp2
    go_ret
    exact ⟨ret_bool (by simp [inB]; omega), rfl⟩

/-- The first k numbers of l are strictly ascending, and from a to b. -/
def RiseTo (l : List Int) (a b : Int) (k : Nat) : Prop := ∀ j (h : j < l.length), j < k → a ≤ l[j] ∧ l[j] ≤ b ∧ (0 < j → l[j - 1] < l[j])
def Rise (l : List Int) (a b : Int) : Prop := RiseTo l a b l.length
instance (l : List Int) (a b : Int) (k : Nat) : Decidable (RiseTo l a b k) := inferInstanceAs (Decidable (∀ j (h : j < l.length), j < k → a ≤ l[j] ∧ l[j] ≤ b ∧ (0 < j → l[j - 1] < l[j])))
instance (l : List Int) (a b : Int) : Decidable (Rise l a b) := inferInstanceAs (Decidable (RiseTo l a b l.length))
theorem RiseTo.succ {l : List Int} {a b : Int} {k : Nat} (h : RiseTo l a b k) (hk : k < l.length) (h1 : a ≤ l[k]) (h2 : l[k] ≤ b) (h3 : 0 < k → l[k - 1] < l[k]) : RiseTo l a b (k + 1) := by
  intro j hj hjk
  rcases Nat.lt_or_ge j k with hlt | hge
  · exact h j hj hlt
  · obtain rfl : j = k := by omega
    exact ⟨h1, h2, h3⟩

set_option maxHeartbeats 400000 in
theorem rising_any (A : Option Addr) (cap : Nat) (xs : List Int) (a b : Int) (w : World) (hm : xs.length ≤ 9223372036854775807) (hA : IntsAt w A xs) :
    Calls Try.prog 68 #[.slice A xs.length cap, .int .i64 a, .int .i64 b] w fun e w' => e = .returned (.bool (decide (Rise xs a b))) ∧ w = w' := by
  have HA := hid hA
  clear hA
  go_enter Try.func68, Try.ntmps68
  go_wp2
  go_loop [11] (fun i => ∃ k : Nat, k ≤ xs.length ∧ i = .int .i64 k ∧ Hid (RiseTo xs a b k)) (fun i => xs.length - (intOf i).toNat)
  case atStart => exact ⟨0, by omega, rfl, hid (by intro j _ h; omega)⟩
  case round =>
    obtain ⟨k, hk, rfl, hn⟩ := hrel
    by_cases hlt : k < xs.length
    · obtain ⟨c, off, rfl, hc⟩ := HA.out (by omega)
      have hcell := hc k hlt
      have hcell' := hc (k - 1) (by omega)
      clear hc
      by_cases hin : inB xs[k] a b = true
      · have hin' : a ≤ xs[k] ∧ xs[k] ≤ b := by simpa [inB] using hin
        by_cases hk0 : 0 < k
        · by_cases hgt : xs[k] ≤ xs[k - 1]
          · go_wp2_with (go_at_call 82; refine (in_any _ _ _ _).mono ?_; rintro e w' ⟨rfl, rfl⟩)
            go_ret
            exact ⟨ret_bool (by symm; rw [decide_eq_false_iff_not]; intro h; have := (h k hlt hlt).2.2 hk0; omega), rfl⟩
          · go_wp2_with (go_at_call 82; refine (in_any _ _ _ _).mono ?_; rintro e w' ⟨rfl, rfl⟩)
            go_round
            case rel => exact ⟨k + 1, by omega, by go_num, hid (hn.out.succ hlt (by omega) (by omega) (by omega))⟩
            case measure => simp [intOf]; omega
        · go_wp2_with (go_at_call 82; refine (in_any _ _ _ _).mono ?_; rintro e w' ⟨rfl, rfl⟩)
          go_round
          case rel => exact ⟨k + 1, by omega, by go_num, hid (hn.out.succ hlt (by omega) (by omega) (by omega))⟩
          case measure => simp [intOf]; omega
      · have hin' : ¬ (a ≤ xs[k] ∧ xs[k] ≤ b) := by simpa [inB] using hin
        have hin2 : inB xs[k] a b = false := by simpa using hin
        clear hin
        go_wp2_with (go_at_call 82; refine (in_any _ _ _ _).mono ?_; rintro e w' ⟨rfl, rfl⟩)
        go_ret
        exact ⟨ret_bool (by symm; rw [decide_eq_false_iff_not]; intro h; have := (h k hlt hlt); omega), rfl⟩
    · go_wp2
      go_ret
      exact ⟨ret_bool (by symm; rw [decide_eq_true_iff]; intro j hj hjk; exact hn.out j hj (by omega)), rfl⟩
end Go.Proofs.Ytpmdjbjnihhjeaa
