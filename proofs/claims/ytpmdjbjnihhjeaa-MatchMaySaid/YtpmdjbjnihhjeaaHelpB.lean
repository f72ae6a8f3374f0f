import Derived.Test.YtpmdjbjnihhjeaaHelpA
namespace Go.Proofs.Ytpmdjbjnihhjeaa
open Go.RowKit

/-- w' is w after some draws. -/
def Drew (w w' : World) : Prop := ∃ n, w' = w.drewN n
theorem Drew.refl (w : World) : Drew w w := ⟨0, rfl⟩
theorem Drew.more {w w' : World} (h : Drew w w') (n : Nat) : Drew w (w'.drewN n) := by
  obtain ⟨m, rfl⟩ := h
  exact ⟨m + n, World.drewN_drewN _ _ _⟩
theorem Drew.trans {a b c : World} (h : Drew a b) (k : Drew b c) : Drew a c := by
  obtain ⟨m, rfl⟩ := k
  exact h.more m
theorem Drew.kept {w w' : World} (h : Drew w w') : Kept w w' := by
  obtain ⟨m, rfl⟩ := h
  exact fun _ _ h => h
theorem Below.drewN' {B : Nat} {a w : World} (h : Below B a w) (n : Nat) : Below B a (w.drewN n) := ⟨h.os, h.tape, h.output, h.size, h.block⟩
theorem Drew.below {w w' : World} (h : Drew w w') (B : Nat) : Below B w w' := by
  obtain ⟨m, rfl⟩ := h
  exact Below.drewN' (Below.refl _ _) m
theorem Calls.quietly {P : Program} {f : FuncId} {args : Array Value} {w : World} {n : Nat} {v : Value} (h : Calls P f args (w.drewN n) fun e w' => e = .returned v ∧ Drew (w.drewN n) w') :
    Calls P f args (w.drewN n) fun e w'' => e = .returned v ∧ ∃ m, w'' = w.drewN m :=
  Calls.quiet_of (h.mono fun _ _ ⟨he, m, hm⟩ => ⟨he, m, hm⟩)
set_option maxHeartbeats 1000000 in
theorem ascending_any (A : Option Addr) (cap : Nat) (xs : List Int) (b : Int) (w : World) (hm : xs.length ≤ 9223372036854775807) (hA : IntsAt w A xs) :
    Calls Try.prog 62 #[.slice A xs.length cap, .int .i64 b] w fun e w' => e = .returned (.bool (decide (Rise xs 0 (b - 1)))) ∧ Drew w w' := by
  have HA := hid hA
  clear hA
  go_enter Try.func62, Try.ntmps62
  go_wp2
  go_loopw [5] (fun i wr => Drew w wr ∧ ∃ k : Nat, k ≤ xs.length ∧ i = .int .i64 k ∧ Hid (RiseTo xs 0 (b - 1) k)) (fun i _ => xs.length - (intOf i).toNat)
  case atStart => exact ⟨Drew.refl _, 0, by omega, rfl, hid (by intro j _ h; omega)⟩
  case round =>
    obtain ⟨hb, k, hk, rfl, hn⟩ := hrel
    by_cases hlt : k < xs.length
    · obtain ⟨c, off, rfl, hc⟩ := (HA.out.kept (Drew.kept hb)) (by omega)
      have hcell := hc k hlt
      have hcell' := hc (k - 1) (by omega)
      clear hc
      have hi0 : (0 : Int) ≤ ↑k := by omega
      have hi1 : (k : Int) < ↑xs.length := by omega
      by_cases h1 : xs[k] < 0
      · have d1 : decide (xs[k] < 0) = true := by simpa using h1
        go_wp2
        go_quiet (fail)
        go_wp2
        go_ret
        exact ⟨ret_bool (by symm; rw [decide_eq_false_iff_not]; intro h; have := (h k hlt hlt); omega), hb.more _⟩
      · have d1 : decide (xs[k] < 0) = false := by simpa using h1
        by_cases h2 : b ≤ xs[k]
        · have d2 : decide (b ≤ xs[k]) = true := by simpa using h2
          go_wp2
          go_quiet (fail)
          go_wp2
          go_ret
          exact ⟨ret_bool (by symm; rw [decide_eq_false_iff_not]; intro h; have := (h k hlt hlt); omega), hb.more _⟩
        · have d2 : decide (b ≤ xs[k]) = false := by simpa using h2
          by_cases hk0 : 0 < k
          · have d3 : decide ((0 : Int) < ↑k) = true := by simp; omega
            by_cases hgt : xs[k] ≤ xs[k - 1]
            · have d4 : decide (xs[k] ≤ xs[k - 1]) = true := by simpa using hgt
              go_wp2
              go_quiet (fail)
              go_wp2
              go_ret
              exact ⟨ret_bool (by symm; rw [decide_eq_false_iff_not]; intro h; have := (h k hlt hlt).2.2 hk0; omega), hb.more _⟩
            · have d4 : decide (xs[k] ≤ xs[k - 1]) = false := by simpa using hgt
              go_wp2
              go_quiet (fail)
              go_wp2
              go_roundw
              case rel => exact ⟨hb.more _, k + 1, by omega, by go_num, hid (hn.out.succ hlt (by omega) (by omega) (by omega))⟩
              case measure => simp [intOf]; omega
          · have d3 : decide ((0 : Int) < ↑k) = false := by simp; omega
            go_wp2
            go_quiet (fail)
            go_wp2
            go_roundw
            case rel => exact ⟨hb.more _, k + 1, by omega, by go_num, hid (hn.out.succ hlt (by omega) (by omega) (by omega))⟩
            case measure => simp [intOf]; omega
    · go_wp2
      go_ret
      exact ⟨ret_bool (by symm; rw [decide_eq_true_iff]; intro j hj hjk; exact hn.out j hj (by omega)), hb⟩

theorem take_succ_eq {α : Type} {xs ys : List α} {k : Nat} (h1 : k < xs.length) (h2 : k < ys.length) (h : xs.take k = ys.take k) (e : xs[k] = ys[k]) : xs.take (k + 1) = ys.take (k + 1) := by
  rw [List.take_succ_eq_append_getElem h1, List.take_succ_eq_append_getElem h2, h, e]
theorem notMem_take {α : Type} {xs : List α} {k : Nat} {n : α} (h : k < xs.length) (hn : n ∉ xs.take k) (hx : xs[k] ≠ n) : n ∉ xs.take (k + 1) := by
  rw [List.take_succ_eq_append_getElem h]
  simp only [List.mem_append, List.mem_singleton, not_or]
  exact ⟨hn, fun e => hx e.symm⟩
theorem eq_of_take {α : Type} {xs ys : List α} {k : Nat} (h1 : ¬ k < xs.length) (hl : xs.length = ys.length) (h : xs.take k = ys.take k) : xs = ys := by
  rwa [List.take_of_length_le (by omega), List.take_of_length_le (by omega)] at h

set_option maxHeartbeats 1000000 in
theorem has_any (A : Option Addr) (cap : Nat) (xs : List Int) (n : Int) (w : World) (hm : xs.length ≤ 9223372036854775807) (hA : IntsAt w A xs) :
    Calls Try.prog 33 #[.slice A xs.length cap, .int .i64 n] w fun e w' => e = .returned (.bool (decide (n ∈ xs))) ∧ w = w' := by
  have HA := hid hA
  clear hA
  go_enter Try.func33, Try.ntmps33
  go_wp2
  go_loop [5] (fun i => ∃ k : Nat, k ≤ xs.length ∧ i = .int .i64 k ∧ Hid (n ∉ xs.take k)) (fun i => xs.length - (intOf i).toNat)
  case atStart => exact ⟨0, by omega, rfl, hid (by simp)⟩
  case round =>
    obtain ⟨k, hk, rfl, hn⟩ := hrel
    by_cases hlt : k < xs.length
    · obtain ⟨b, off, rfl, hc⟩ := HA.out (by omega)
      have hcell := hc k hlt
      clear hc
      go_wp2
      · have hx : (xs[k] == n) = true := by assumption
        go_ret
        exact ⟨ret_bool (by simp at hx; simp [← hx]), rfl⟩
      · have hx : (xs[k] == n) = false := by assumption
        go_round
        case rel => exact ⟨k + 1, by omega, by go_num, hid (notMem_take hlt hn.out (by simpa using hx))⟩
        case measure => simp [intOf]; omega
    · go_wp2
      go_ret
      exact ⟨ret_bool (by have := hn.out; rw [List.take_of_length_le (by omega)] at this; simp [this]), rfl⟩

def idx (xs : List Int) (n : Int) : Int := if n ∈ xs then (xs.idxOf n : Int) else -1
theorem idx_at {xs : List Int} {n : Int} {k : Nat} (hlt : k < xs.length) (h1 : n ∉ xs.take k) (hx : n = xs[k]) : idx xs n = k := by
  have hmem : n ∈ xs := by rw [hx]; exact List.getElem_mem hlt
  have hidx : xs.idxOf n = k := by
    have h2 : xs = xs.take k ++ xs[k] :: xs.drop (k + 1) := by rw [← List.drop_eq_getElem_cons hlt, List.take_append_drop]
    rw [h2, List.idxOf_append, if_neg h1, ← hx, List.idxOf_cons_self]
    simp; omega
  unfold idx
  rw [if_pos hmem, hidx]
theorem idx_none {xs : List Int} {n : Int} (h : n ∉ xs) : idx xs n = -1 := by unfold idx; rw [if_neg h]
set_option maxHeartbeats 1000000 in
theorem index_any (A : Option Addr) (cap : Nat) (xs : List Int) (n : Int) (w : World) (hm : xs.length ≤ 9223372036854775807) (hA : IntsAt w A xs) :
    Calls Try.prog 86 #[.slice A xs.length cap, .int .i64 n] w fun e w' => e = .returned (.int .i64 (idx xs n)) ∧ w = w' := by
  have HA := hid hA
  clear hA
  go_enter Try.func86, Try.ntmps86
  go_wp2
  go_loop [8] (fun i => ∃ k : Nat, k ≤ xs.length ∧ i = .int .i64 k ∧ Hid (n ∉ xs.take k)) (fun i => xs.length - (intOf i).toNat)
  case atStart => exact ⟨0, by omega, rfl, hid (by simp)⟩
  case round =>
    obtain ⟨k, hk, rfl, hn⟩ := hrel
    by_cases hlt : k < xs.length
    · obtain ⟨b, off, rfl, hc⟩ := HA.out (by omega)
      have hcell := hc k hlt
      clear hc
      go_wp2
      · have hx : (n == xs[k]) = true := by assumption
        go_ret
        have hx' : n = xs[k] := by simpa using hx
        exact ⟨ret_int (idx_at hlt hn.out hx').symm, rfl⟩
      · have hx : (n == xs[k]) = false := by assumption
        go_round
        case rel => exact ⟨k + 1, by omega, by go_num, hid (notMem_take hlt hn.out (by have : ¬ n = xs[k] := by simpa using hx
                                                                                       exact fun e => this e.symm))⟩
        case measure => simp [intOf]; omega
    · go_wp2
      go_ret
      exact ⟨ret_int (by have := hn.out; rw [List.take_of_length_le (by omega)] at this; exact (idx_none this).symm), rfl⟩

set_option maxHeartbeats 1000000 in
theorem contains_any (A : Option Addr) (cap : Nat) (xs : List Int) (n : Int) (w : World) (hm : xs.length ≤ 9223372036854775807) (hA : IntsAt w A xs) :
    Calls Try.prog 59 #[.slice A xs.length cap, .int .i64 n] w fun e w' => e = .returned (.bool (decide (n ∈ xs))) ∧ w = w' := by
  have HA := hid hA
  clear hA
  go_enter Try.func59, Try.ntmps59
  go_wp2_with fail
  refine (index_any _ _ _ _ _ hm HA.out).mono ?_
  rintro e w' ⟨rfl, rfl⟩
  by_cases hmem : n ∈ xs
  · have hi : 0 ≤ idx xs n := by unfold idx; rw [if_pos hmem]; omega
    have hmem := hid hmem
    go_wp2
    go_ret
    exact ⟨ret_bool (by have := hmem.out; simp [this]), rfl⟩
  · have hi : idx xs n = -1 := idx_none hmem
    have hmem := hid hmem
    go_wp2
    go_ret
    exact ⟨ret_bool (by have := hmem.out; simp [this]), rfl⟩

set_option maxHeartbeats 1000000 in
theorem same_any (A B : Option Addr) (cap cap' : Nat) (xs ys : List Int) (w : World) (hm : xs.length ≤ 9223372036854775807) (hm' : ys.length ≤ 9223372036854775807) (hA : IntsAt w A xs) (hB : IntsAt w B ys) :
    Calls Try.prog 22 #[.slice A xs.length cap, .slice B ys.length cap'] w fun e w' => e = .returned (.bool (decide (xs = ys))) ∧ Drew w w' := by
  have HA := hid hA
  have HB := hid hB
  clear hA hB
  by_cases hl : xs.length = ys.length
  case neg =>
    have d0 : ((xs.length : Int) == ys.length) = false := by simp; omega
    go_enter Try.func22, Try.ntmps22
    go_wp2
    go_ret
    exact ⟨ret_bool (by symm; rw [decide_eq_false_iff_not]; rintro rfl; exact hl rfl), Drew.refl _⟩
  have d0 : ((xs.length : Int) == ys.length) = true := by simp; omega
  have HL := hid hl
  clear hl
  go_enter Try.func22, Try.ntmps22
  go_wp2
  go_loopw [5] (fun i wr => Drew w wr ∧ ∃ k : Nat, k ≤ xs.length ∧ i = .int .i64 k ∧ Hid (xs.take k = ys.take k)) (fun i _ => xs.length - (intOf i).toNat)
  case atStart => exact ⟨Drew.refl _, 0, by omega, rfl, hid (by simp)⟩
  case round =>
    obtain ⟨hb, k, hk, rfl, hn⟩ := hrel
    by_cases hlt : k < xs.length
    · have hlt' : k < ys.length := by have := HL.out; omega
      obtain ⟨b, off, rfl, hc⟩ := (HA.out.kept (Drew.kept hb)) (by omega)
      have hcell := hc k hlt
      clear hc
      obtain ⟨b', off', rfl, hc⟩ := (HB.out.kept (Drew.kept hb)) (by omega)
      have hcell' := hc k hlt'
      clear hc
      have hi0 : (0 : Int) ≤ ↑k := by omega
      have hi1 : (k : Int) < ↑xs.length := by omega
      have hi2 : (k : Int) < ↑ys.length := by omega
      by_cases hx : xs[k] = ys[k]
      · have d1 : (xs[k] == ys[k]) = true := by simpa using hx
        have hx := hid hx
        go_wp2
        go_quiet (fail)
        go_wp2
        go_roundw
        case rel => exact ⟨hb.more _, k + 1, by omega, by go_num, hid (take_succ_eq hlt hlt' hn.out (by assumption))⟩
        case measure => simp [intOf]; omega
      · have d1 : (xs[k] == ys[k]) = false := by simpa using hx
        go_wp2
        go_quiet (fail)
        go_wp2
        go_ret
        exact ⟨ret_bool (by symm; rw [decide_eq_false_iff_not]; intro h; subst h; exact hx rfl), hb.more _⟩
    · go_wp2
      go_ret
      exact ⟨ret_bool (by symm; rw [decide_eq_true_iff]; exact eq_of_take hlt HL.out hn.out), hb⟩
end Go.Proofs.Ytpmdjbjnihhjeaa
