import Derived.Test.YtpmdjbjnihhjeaaHelpC
namespace Go.Proofs.Ytpmdjbjnihhjeaa
open Go.RowKit

theorem part_t (A B : Option Addr) (cap cap' : Nat) (xs ys : List Int) (w : World) (hm : xs.length ≤ 9223372036854775807) (hm' : ys.length ≤ 9223372036854775807) (hA : IntsAt w A xs) (hB : IntsAt w B ys) {t : Bool} (ht : decide (∀ x ∈ xs, x ∈ ys) = t) :
    Calls Try.prog 49 #[.slice A xs.length cap, .slice B ys.length cap'] w fun e w' => e = .returned (.bool t) ∧ Drew w w' := by
  subst ht
  exact (part_any A B cap cap' xs ys w hm hm' hA hB).mono fun _ _ ⟨h, e⟩ => ⟨h, by subst e; exact Drew.refl _⟩

theorem rising_t (A : Option Addr) (cap : Nat) (xs : List Int) (a b : Int) (w : World) (hm : xs.length ≤ 9223372036854775807) (hA : IntsAt w A xs) {t : Bool} (ht : decide (Rise xs a b) = t) :
    Calls Try.prog 68 #[.slice A xs.length cap, .int .i64 a, .int .i64 b] w fun e w' => e = .returned (.bool t) ∧ w = w' := by
  subst ht
  exact rising_any A cap xs a b w hm hA

set_option maxHeartbeats 1000000 in
theorem notRising_any (A As : Option Addr) (cap cs ns bx : Nat) (xs : List Int) (w : World) (hm : xs.length ≤ 9223372036854775807) (hA : IntsAt w A xs) (hs : ns ≤ 1000)
    (hbx : w.cell? ⟨bx, 1, none⟩ = some (.slice As ns cs)) {t : Bool} (ht : decide (Rise xs 0 (ns - 1)) = !t) :
    Calls Try.prog 84 #[.slice A xs.length cap, .pointer (some ⟨bx, 0, none⟩)] w fun e w' => e = .returned (.bool t) ∧ w = w' := by
  have HA := hid hA
  have HT := hid ht
  clear hA ht
  cases t
  all_goals
    go_enter Try.func84, Try.ntmps84
    go_wp2_with (go_at_call 68; refine (rising_t _ _ _ _ _ _ hm HA.out HT.out).mono ?_; rintro e w' ⟨rfl, rfl⟩)
    go_ret
    exact ⟨rfl, rfl⟩

theorem flip_f {t : Bool} (h : false = !t) : true = t := by cases t <;> simp_all
theorem flip_t {t : Bool} (h : true = !t) : false = t := by cases t <;> simp_all
set_option maxHeartbeats 1000000 in
theorem indexFunc84_any (A As : Option Addr) (cap cs ns bx : Nat) (ff : List (List Int)) (w : World) (hm : ff.length ≤ 9223372036854775807) (hl : ∀ l ∈ ff, l.length ≤ 9223372036854775807) (hA : FitsAt w A ff) (hs : ns ≤ 1000)
    (hbx : w.cell? ⟨bx, 1, none⟩ = some (.slice As ns cs)) {t : Bool} (ht : decide (∀ l ∈ ff, Rise l 0 (ns - 1)) = !t) :
    Calls Try.prog 93 #[.slice A ff.length cap, .func (.func 84) #[] #[.pointer (some ⟨bx, 0, none⟩)]] w fun e w' => (∃ i : Int, e = .returned (.int .i64 i) ∧ decide (0 ≤ i) = t) ∧ w = w' := by
  have HA := hid hA
  have HT := hid ht
  have HL := hid hl
  clear hA ht hl
  go_enter Try.func93, Try.ntmps93
  go_wp2
  go_loop [8] (fun i => ∃ k : Nat, k ≤ ff.length ∧ i = .int .i64 k ∧ Hid (∀ l ∈ ff.take k, Rise l 0 (ns - 1))) (fun i => ff.length - (intOf i).toNat)
  case atStart => exact ⟨0, by omega, rfl, hid (by simp)⟩
  case round =>
    obtain ⟨k, hk, rfl, hn⟩ := hrel
    by_cases hlt : k < ff.length
    · obtain ⟨b, off, rfl, hc⟩ := HA.out (by omega)
      obtain ⟨Aj, cj, hcell, hi⟩ := hc k hlt
      clear hc
      have HI := hid hi
      clear hi
      rcases hq : decide (Rise ff[k] 0 (ns - 1)) with _ | _
      · have HQ := hid hq
        clear hq
        go_wp2_with (go_at_call 84; refine (notRising_any _ _ _ _ _ _ _ _ (HL.out _ (List.getElem_mem _)) HI.out hs (by assumption) (t := true) HQ.out).mono ?_; rintro e w' ⟨rfl, rfl⟩)
        go_ret
        refine ⟨⟨k, rfl, ?_⟩, rfl⟩
        rw [decide_eq_true (by omega : (0 : Int) ≤ k)]
        have h1 := HT.out
        have : ¬ (∀ l ∈ ff, Rise l 0 (ns - 1)) := fun h => by have := h _ (List.getElem_mem hlt); have := HQ.out; simp at this; contradiction
        rw [decide_eq_false this] at h1
        exact flip_f h1
      · have HQ := hid hq
        clear hq
        go_wp2_with (go_at_call 84; refine (notRising_any _ _ _ _ _ _ _ _ (HL.out _ (List.getElem_mem _)) HI.out hs (by assumption) (t := false) HQ.out).mono ?_; rintro e w' ⟨rfl, rfl⟩)
        go_round
        case rel => exact ⟨k + 1, by omega, by go_num, hid (by rw [List.take_succ_eq_append_getElem hlt]; intro x hx; simp only [List.mem_append, List.mem_singleton] at hx; rcases hx with hx | rfl; exact hn.out x hx; simpa using HQ.out)⟩
        case measure => simp [intOf]; omega
    · go_wp2
      go_ret
      refine ⟨⟨-1, rfl, ?_⟩, rfl⟩
      have h1 := HT.out
      have h2 := hn.out
      rw [List.take_of_length_le (by omega)] at h2
      rw [decide_eq_true h2] at h1
      exact flip_t h1

set_option maxHeartbeats 1000000 in
theorem containsFunc84_any (A As : Option Addr) (cap cs ns bx : Nat) (ff : List (List Int)) (w : World) (hm : ff.length ≤ 9223372036854775807) (hl : ∀ l ∈ ff, l.length ≤ 9223372036854775807) (hA : FitsAt w A ff) (hs : ns ≤ 1000)
    (hbx : w.cell? ⟨bx, 1, none⟩ = some (.slice As ns cs)) {t : Bool} (ht : decide (∀ l ∈ ff, Rise l 0 (ns - 1)) = !t) :
    Calls Try.prog 83 #[.slice A ff.length cap, .func (.func 84) #[] #[.pointer (some ⟨bx, 0, none⟩)]] w fun e w' => e = .returned (.bool t) ∧ w = w' := by
  have HC := hid (indexFunc84_any A As cap cs ns bx ff w hm hl hA hs hbx ht)
  clear ht hl hA hbx
  go_enter Try.func83, Try.ntmps83
  go_wp2_with fail
  refine HC.out.mono ?_
  rintro e w' ⟨⟨i, rfl, hi⟩, rfl⟩
  clear HC
  cases t
  all_goals
    go_wp2
    go_ret
    exact ⟨rfl, rfl⟩

set_option maxHeartbeats 1000000 in
theorem narrower_any (A B : Option Addr) (cap cap' : Nat) (xs ys : List (List Int)) (w : World) (hm : xs.length ≤ 9223372036854775807) (hm' : ys.length ≤ 9223372036854775807)
    (hx : ∀ l ∈ xs, l.length ≤ 9223372036854775807) (hy : ∀ l ∈ ys, l.length ≤ 9223372036854775807) (hA : FitsAt w A xs) (hB : FitsAt w B ys)
    (hl : xs.length = ys.length) (hall : ∀ k (h : k < xs.length) (h' : k < ys.length), ∀ x ∈ xs[k], x ∈ ys[k]) :
    Calls Try.prog 50 #[.slice A xs.length cap, .slice B ys.length cap'] w fun e w' => e = .returned (.bool true) ∧ Drew w w' := by
  have HA := hid hA
  have HB := hid hB
  have HX := hid hx
  have HY := hid hy
  have HALL := hid hall
  clear hA hB hx hy hall
  have d0 : ((xs.length : Int) == ys.length) = true := by simp; omega
  have HL := hid hl
  clear hl
  go_enter Try.func50, Try.ntmps50
  go_wp2
  go_loopw [5] (fun i wr => Drew w wr ∧ ∃ k : Nat, k ≤ xs.length ∧ i = .int .i64 k) (fun i _ => xs.length - (intOf i).toNat)
  case atStart => exact ⟨Drew.refl _, 0, by omega, rfl⟩
  case round =>
    obtain ⟨hb, k, hk, rfl⟩ := hrel
    by_cases hlt : k < xs.length
    · have hlt' : k < ys.length := by have := HL.out; omega
      obtain ⟨b, off, rfl, hc⟩ := (HA.out.kept (Drew.kept hb)) (by omega)
      obtain ⟨A1, c1, hcell, hi⟩ := hc k hlt
      clear hc
      obtain ⟨b', off', rfl, hc⟩ := (HB.out.kept (Drew.kept hb)) (by omega)
      obtain ⟨B1, c2, hcell', hi'⟩ := hc k hlt'
      clear hc
      have hi0 : (0 : Int) ≤ ↑k := by omega
      have hi1 : (k : Int) < ↑xs.length := by omega
      have hi2 : (k : Int) < ↑ys.length := by omega
      have HI := hid hi
      have HI' := hid hi'
      clear hi hi'
      have HT : Hid (decide (∀ x ∈ xs[k], x ∈ ys[k]) = true) := hid (decide_eq_true (HALL.out k hlt hlt'))
      go_wp2
      go_quiet ((go_at_call 49; refine Calls.quietly (part_t _ _ _ _ _ _ _ (HX.out _ (List.getElem_mem _)) (HY.out _ (List.getElem_mem _)) HI.out.dn HI'.out.dn HT.out)))
      go_wp2
      go_roundw
      case rel => exact ⟨hb.more _, k + 1, by omega, by go_num⟩
      case measure => simp [intOf]; omega
    · have hlt' : ¬ k < ys.length := by have := HL.out; omega
      go_wp2
      go_ret
      exact ⟨rfl, hb⟩
end Go.Proofs.Ytpmdjbjnihhjeaa
