import Derived.Test.YtpmdjbjnihhjeaaHelpB
namespace Go.Proofs.Ytpmdjbjnihhjeaa
open Go.RowKit

theorem IntsAt.dn {w : World} {A : Option Addr} {xs : List Int} (h : IntsAt w A xs) {n : Nat} : IntsAt (w.drewN n) A xs := h
theorem SlotsAt.dn {w : World} {A : Option Addr} {xs : List Slot} (h : SlotsAt w A xs) {n : Nat} : SlotsAt (w.drewN n) A xs := h
theorem FitsAt.dn {w : World} {A : Option Addr} {xs : List (List Int)} (h : FitsAt w A xs) {n : Nat} : FitsAt (w.drewN n) A xs := h
theorem has_t (A : Option Addr) (cap : Nat) (xs : List Int) (n : Int) (w : World) (hm : xs.length ≤ 9223372036854775807) (hA : IntsAt w A xs) {t : Bool} (ht : decide (n ∈ xs) = t) :
    Calls Try.prog 33 #[.slice A xs.length cap, .int .i64 n] w fun e w' => e = .returned (.bool t) ∧ w = w' := by
  subst ht
  exact has_any A cap xs n w hm hA
theorem same_t (A B : Option Addr) (cap cap' : Nat) (xs ys : List Int) (w : World) (hm : xs.length ≤ 9223372036854775807) (hm' : ys.length ≤ 9223372036854775807) (hA : IntsAt w A xs) (hB : IntsAt w B ys) {t : Bool} (ht : decide (xs = ys) = t) :
    Calls Try.prog 22 #[.slice A xs.length cap, .slice B ys.length cap'] w fun e w' => e = .returned (.bool t) ∧ Drew w w' := by
  subst ht
  exact same_any A B cap cap' xs ys w hm hm' hA hB

set_option maxHeartbeats 1000000 in
theorem sameLists_any (A B : Option Addr) (cap cap' : Nat) (xs ys : List (List Int)) (w : World) (hm : xs.length ≤ 9223372036854775807) (hm' : ys.length ≤ 9223372036854775807)
    (hx : ∀ l ∈ xs, l.length ≤ 9223372036854775807) (hy : ∀ l ∈ ys, l.length ≤ 9223372036854775807) (hA : FitsAt w A xs) (hB : FitsAt w B ys) :
    Calls Try.prog 23 #[.slice A xs.length cap, .slice B ys.length cap'] w fun e w' => e = .returned (.bool (decide (xs = ys))) ∧ Drew w w' := by
  have HA := hid hA
  have HB := hid hB
  have HX := hid hx
  have HY := hid hy
  clear hA hB hx hy
  by_cases hl : xs.length = ys.length
  case neg =>
    have d0 : ((xs.length : Int) == ys.length) = false := by simp; omega
    go_enter Try.func23, Try.ntmps23
    go_wp2
    go_ret
    exact ⟨ret_bool (by symm; rw [decide_eq_false_iff_not]; rintro rfl; exact hl rfl), Drew.refl _⟩
  have d0 : ((xs.length : Int) == ys.length) = true := by simp; omega
  have HL := hid hl
  clear hl
  go_enter Try.func23, Try.ntmps23
  go_wp2
  go_loopw [5] (fun i wr => Drew w wr ∧ ∃ k : Nat, k ≤ xs.length ∧ i = .int .i64 k ∧ Hid (xs.take k = ys.take k)) (fun i _ => xs.length - (intOf i).toNat)
  case atStart => exact ⟨Drew.refl _, 0, by omega, rfl, hid (by simp)⟩
  case round =>
    obtain ⟨hb, k, hk, rfl, hn⟩ := hrel
    by_cases hlt : k < xs.length
    · have hlt' : k < ys.length := by have := HL.out; omega
      obtain ⟨b, off, rfl, hc⟩ := (HA.out.kept (Drew.kept hb)) (by omega)
      obtain ⟨A1, c1, hcell, hi⟩ := hc k hlt
      clear hc
      obtain ⟨b', off', rfl, hc⟩ := (HB.out.kept (Drew.kept hb)) (by omega)
      obtain ⟨B1, c2, hcell', hi'⟩ := hc k hlt'
      clear hc
      have hi0 : (0 : Int) ≤ ↑k := by omega
      have hi1 : (k : Int) < ↑xs.length := by omega
      have hi2 : (k : Int) < ↑ys.length := by omega
      have HI := hid hi
      have HI' := hid hi'
      clear hi hi'
      rcases ht : decide (xs[k] = ys[k]) with _ | _
      · have HT := hid ht
        clear ht
        go_wp2
        go_quiet ((go_at_call 22; refine Calls.quietly (same_t _ _ _ _ _ _ _ (HX.out _ (List.getElem_mem _)) (HY.out _ (List.getElem_mem _)) HI.out.dn HI'.out.dn HT.out)))
        go_wp2
        go_ret
        exact ⟨ret_bool (by symm; rw [decide_eq_false_iff_not]; intro h; subst h; exact absurd HT.out (by simp)), hb.more _⟩
      · have HT := hid ht
        clear ht
        go_wp2
        go_quiet ((go_at_call 22; refine Calls.quietly (same_t _ _ _ _ _ _ _ (HX.out _ (List.getElem_mem _)) (HY.out _ (List.getElem_mem _)) HI.out.dn HI'.out.dn HT.out)))
        go_wp2
        go_roundw
        case rel => exact ⟨hb.more _, k + 1, by omega, by go_num, hid (take_succ_eq hlt hlt' hn.out (by simpa using HT.out))⟩
        case measure => simp [intOf]; omega
    · go_wp2
      go_ret
      exact ⟨ret_bool (by symm; rw [decide_eq_true_iff]; exact eq_of_take hlt HL.out hn.out), hb⟩

set_option maxHeartbeats 1000000 in
theorem part_any (A B : Option Addr) (cap cap' : Nat) (xs ys : List Int) (w : World) (hm : xs.length ≤ 9223372036854775807) (hm' : ys.length ≤ 9223372036854775807) (hA : IntsAt w A xs) (hB : IntsAt w B ys) :
    Calls Try.prog 49 #[.slice A xs.length cap, .slice B ys.length cap'] w fun e w' => e = .returned (.bool (decide (∀ x ∈ xs, x ∈ ys))) ∧ w = w' := by
  have HA := hid hA
  have HB := hid hB
  clear hA hB
  go_enter Try.func49, Try.ntmps49
  go_wp2
  go_loop [5] (fun i => ∃ k : Nat, k ≤ xs.length ∧ i = .int .i64 k ∧ Hid (∀ x ∈ xs.take k, x ∈ ys)) (fun i => xs.length - (intOf i).toNat)
  case atStart => exact ⟨0, by omega, rfl, hid (by simp)⟩
  case round =>
    obtain ⟨k, hk, rfl, hn⟩ := hrel
    by_cases hlt : k < xs.length
    · obtain ⟨b, off, rfl, hc⟩ := HA.out (by omega)
      have hcell := hc k hlt
      clear hc
      rcases ht : decide (xs[k] ∈ ys) with _ | _
      · have HT := hid ht
        clear ht
        go_wp2_with (go_at_call 33; refine (has_t _ _ _ _ _ hm' HB.out HT.out).mono ?_; rintro e w' ⟨rfl, rfl⟩)
        go_ret
        exact ⟨ret_bool (by symm; rw [decide_eq_false_iff_not]; intro h; have := h _ (List.getElem_mem hlt); have := HT.out; simp at this; contradiction), rfl⟩
      · have HT := hid ht
        clear ht
        go_wp2_with (go_at_call 33; refine (has_t _ _ _ _ _ hm' HB.out HT.out).mono ?_; rintro e w' ⟨rfl, rfl⟩)
        go_round
        case rel => exact ⟨k + 1, by omega, by go_num, hid (by rw [List.take_succ_eq_append_getElem hlt]; intro x hx; simp only [List.mem_append, List.mem_singleton] at hx; rcases hx with hx | rfl; exact hn.out x hx; simpa using HT.out)⟩
        case measure => simp [intOf]; omega
    · go_wp2
      go_ret
      exact ⟨ret_bool (by have := hn.out; rw [List.take_of_length_le (by omega)] at this; symm; rw [decide_eq_true_iff]; exact this), rfl⟩
end Go.Proofs.Ytpmdjbjnihhjeaa
