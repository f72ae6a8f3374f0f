/- The check on the chapter's examples is true. -/
import Derived.Test.YtpmdjbjnihhjeaaBoards
namespace Go.Proofs.Ytpmdjbjnihhjeaa
open Go.RowKit

theorem at_alloc {w : World} {c : Array Value} {t : TypeId} {n i : Nat} {v : Value} (h : n = w.heap.size) (hv : c[i]? = some v) : (w.alloc (.cells c t)).cell? ⟨n, i, none⟩ = some v := by
  rw [World.cell?_alloc_at _ _ _ _ h]; exact hv
theorem past_alloc {w : World} {o : Obj} {n i : Nat} {v : Value} (h : n < w.heap.size) (hv : w.cell? ⟨n, i, none⟩ = some v) : (w.alloc o).cell? ⟨n, i, none⟩ = some v := by
  rw [World.cell?_alloc_past _ _ _ h]; exact hv

/-- The cells of seven new blocks. -/
def seven (w : World) (a b c d e f g : Array Value) : World := ((((((w.alloc (.cells a 26)).alloc (.cells b 3)).alloc (.cells c 50)).alloc (.cells d 3)).alloc (.cells e 3)).alloc (.cells f 3)).alloc (.cells g 22)
section
variable {w : World} {a b c d e f g : Array Value} {i : Nat} {v : Value}
theorem seven1 (h : b[i]? = some v) : (seven w a b c d e f g).cell? ⟨w.heap.size + 1, i, none⟩ = some v :=
  past_alloc (by simp) (past_alloc (by simp) (past_alloc (by simp) (past_alloc (by simp) (past_alloc (by simp) (at_alloc (by simp) h)))))
theorem seven2 (h : c[i]? = some v) : (seven w a b c d e f g).cell? ⟨w.heap.size + 2, i, none⟩ = some v :=
  past_alloc (by simp) (past_alloc (by simp) (past_alloc (by simp) (past_alloc (by simp) (at_alloc (by simp) h))))
theorem seven3 (h : d[i]? = some v) : (seven w a b c d e f g).cell? ⟨w.heap.size + 3, i, none⟩ = some v :=
  past_alloc (by simp) (past_alloc (by simp) (past_alloc (by simp) (at_alloc (by simp) h)))
theorem seven4 (h : e[i]? = some v) : (seven w a b c d e f g).cell? ⟨w.heap.size + 4, i, none⟩ = some v :=
  past_alloc (by simp) (past_alloc (by simp) (at_alloc (by simp) h))
theorem seven5 (h : f[i]? = some v) : (seven w a b c d e f g).cell? ⟨w.heap.size + 5, i, none⟩ = some v :=
  past_alloc (by simp) (at_alloc (by simp) h)
theorem seven6 (h : g[i]? = some v) : (seven w a b c d e f g).cell? ⟨w.heap.size + 6, i, none⟩ = some v := at_alloc (by simp) h
theorem seven_below : Below w.heap.size w (seven w a b c d e f g) :=
  (((((((Below.refl _ _).alloc (Nat.le_refl _) _).alloc (by simp) _).alloc (by simp; omega) _).alloc (by simp; omega) _).alloc (by simp; omega) _).alloc (by simp; omega) _).alloc (by simp; omega) _
end
theorem seven_board (w : World) (p : Int) (a : Array Value) :
    BoardAt (seven w a #[.int .i64 10, .int .i64 20, .int .i64 30] #[.int .i64 1, .int .i64 1, .int .i64 p, .int .i64 1, .int .i64 2, .int .i64 1, .int .i64 1, .int .i64 3, .int .i64 1] #[.int .i64 0] #[.int .i64 0, .int .i64 1] #[.int .i64 0, .int .i64 1, .int .i64 2]
      #[.slice (some ⟨w.heap.size + 3, 0, none⟩) 1 1, .slice (some ⟨w.heap.size + 4, 0, none⟩) 2 2, .slice (some ⟨w.heap.size + 5, 0, none⟩) 3 3]) (some ⟨w.heap.size + 1, 0, none⟩) (some ⟨w.heap.size + 2, 0, none⟩) (some ⟨w.heap.size + 6, 0, none⟩) (exBoard p) := by
  refine ⟨fun _ => ⟨w.heap.size + 1, 0, rfl, fun j hj => ?_⟩, fun _ => ⟨w.heap.size + 2, 0, rfl, fun j hj => ?_⟩, fun _ => ⟨w.heap.size + 6, 0, rfl, fun j hj => ?_⟩⟩
  · match j, hj with
    | 0, _ => exact seven1 rfl
    | 1, _ => exact seven1 rfl
    | 2, _ => exact seven1 rfl
    | (n + 3), h => exact absurd h (by simp [exBoard])
  · match j, hj with
    | 0, _ => exact ⟨seven2 rfl, seven2 rfl, seven2 rfl⟩
    | 1, _ => exact ⟨seven2 rfl, seven2 rfl, seven2 rfl⟩
    | 2, _ => exact ⟨seven2 rfl, seven2 rfl, seven2 rfl⟩
    | (n + 3), h => exact absurd h (by simp [exBoard, exSlots])
  · match j, hj with
    | 0, _ =>
      refine ⟨some ⟨w.heap.size + 3, 0, none⟩, 1, seven6 rfl, fun _ => ⟨w.heap.size + 3, 0, rfl, fun i hi => ?_⟩⟩
      match i, hi with
      | 0, _ => exact seven3 rfl
      | (n + 1), h => exact absurd h (by simp [exBoard])
    | 1, _ =>
      refine ⟨some ⟨w.heap.size + 4, 0, none⟩, 2, seven6 rfl, fun _ => ⟨w.heap.size + 4, 0, rfl, fun i hi => ?_⟩⟩
      match i, hi with
      | 0, _ => exact seven4 rfl
      | 1, _ => exact seven4 rfl
      | (n + 2), h => exact absurd h (by simp [exBoard])
    | 2, _ =>
      refine ⟨some ⟨w.heap.size + 5, 0, none⟩, 3, seven6 rfl, fun _ => ⟨w.heap.size + 5, 0, rfl, fun i hi => ?_⟩⟩
      match i, hi with
      | 0, _ => exact seven5 rfl
      | 1, _ => exact seven5 rfl
      | 2, _ => exact seven5 rfl
      | (n + 3), h => exact absurd h (by simp [exBoard])
    | (n + 3), h => exact absurd h (by simp [exBoard])

set_option maxRecDepth 100000 in
set_option maxHeartbeats 8000000 in
theorem exBoard_any (p : Int) (w : World) :
    Calls Try.prog 51 #[.int .i64 p] w fun e w' => ∃ Af As At, e = .returned (.agg #[.slice Af 3 3, .slice As 3 3, .slice At 3 3]) ∧ BoardAt w' Af As At (exBoard p) ∧ Below w.heap.size w w' := by
  go_enter Try.func51, Try.ntmps51
  go_wp2_with fail
  refine bodyPost_ret (v := .agg #[.slice (some ⟨w.heap.size + 1, 0, none⟩) 3 3, .slice (some ⟨w.heap.size + 2, 0, none⟩) 3 3, .slice (some ⟨w.heap.size + 6, 0, none⟩) 3 3]) (by simp [results, Try.results51, go_sem]) rfl ?_
  exact ⟨_, _, _, rfl, seven_board w p _, seven_below⟩

theorem exAssign (Af As At : Option Addr) (w : World) (hB : BoardAt w Af As At (exBoard 1)) :
    Calls Try.prog 15 #[.agg #[.slice Af 3 3, .slice As 3 3, .slice At 3 3]] w fun e w' => ∃ A c, e = .returned (.tuple #[.slice A 3 c, .bool true, .int .i64 0]) ∧ IntsAt w' A [0, 1, 2] ∧ Below w.heap.size w w' := by
  refine (assign_any (exBoard 1) Af As At 3 3 3 w (ex_small 1) hB).mono ?_
  rintro e w' ⟨hb, ⟨h, _⟩ | ⟨_, h, _⟩ | ⟨_, A, c, a, hf, rfl, hA⟩⟩
  · exact absurd (ex_check (by omega) (by omega)) h
  · exact absurd ⟨_, ex1_as.2 rfl⟩ h
  · have := ex1_first hf
    subst this
    exact ⟨A, c, rfl, hA, hb⟩
theorem exMust (p : Int) (hp : p = 1 ∨ p = 2) (m : List Int) (hm : (exBoard p).must = m) (hl : m.length = 3) (Af As At : Option Addr) (w : World) (hB : BoardAt w Af As At (exBoard p)) :
    Calls Try.prog 17 #[.agg #[.slice Af 3 3, .slice As 3 3, .slice At 3 3]] w fun e w' => ∃ A c, e = .returned (.tuple #[.slice A 3 c, .int .i64 0]) ∧ IntsAt w' A m ∧ Below w.heap.size w w' := by
  refine (must_any (exBoard p) Af As At 3 3 3 w (ex_small p) hB).mono ?_
  rintro e w' ⟨hb, ⟨h, _⟩ | ⟨_, h, _⟩ | ⟨_, _, A, c, rfl, hA⟩⟩
  · exact absurd (ex_check (by omega) (by omega)) h
  · refine absurd ?_ h
    rcases hp with rfl | rfl
    · exact ⟨_, ex1_as.2 rfl⟩
    · exact ⟨_, ex2_as.2 (.inl rfl)⟩
  · rw [hm] at hA ⊢
    rw [hl]
    exact ⟨A, c, rfl, hA, hb⟩
theorem exRefuse (Af As At : Option Addr) (w : World) (hB : BoardAt w Af As At (exBoard 1)) :
    Calls Try.prog 31 #[.agg #[.slice Af 3 3, .slice As 3 3, .slice At 3 3], .int .i64 2, .int .i64 1] w fun e w' => ∃ A c, e = .returned (.tuple #[.slice A 2 c, .bool true, .int .i64 0]) ∧ IntsAt w' A [0, 1] ∧ Below w.heap.size w w' := by
  refine (refuse_any (exBoard 1) Af As At 3 3 3 w (ex_small 1) hB 2 1).mono ?_
  rintro e w' ⟨hb, ⟨h, _⟩ | ⟨_, h, _⟩ | ⟨_, _, ⟨h, _⟩ | ⟨_, ⟨a, ha, h⟩, _⟩ | ⟨_, H, A, c, rfl, hA, hD⟩⟩⟩
  · exact absurd ex1_ask h
  · exact absurd ⟨_, ex1_as.2 rfl⟩ h
  · exact absurd (by decide) h
  · rw [ex1_as.1 ha] at h
    exact absurd h (by decide)
  · have := ex1_denial hD
    subst this
    exact ⟨A, c, rfl, hA, hb⟩
theorem exLoad (Af As At : Option Addr) (w : World) (hB : BoardAt w Af As At (exBoard 2)) :
    Calls Try.prog 18 #[.agg #[.slice Af 3 3, .slice As 3 3, .slice At 3 3], .int .i64 0] w fun e w' => e = .returned (.tuple #[.int .i64 1, .int .i64 2, .int .i64 0]) ∧ Below w.heap.size w w' := by
  refine (load_of_any (exBoard 2) Af As At 3 3 3 w (ex_small 2) hB 0).mono ?_
  rintro e w' ⟨hb, ⟨h, _⟩ | ⟨_, h, _⟩ | ⟨_, _, low, high, hL, rfl⟩⟩
  · exact absurd ex2_ask h
  · exact absurd ⟨_, ex2_as.2 (.inl rfl)⟩ h
  · obtain ⟨rfl, rfl⟩ := ex2_load hL
    exact ⟨rfl, hb⟩
theorem exHall_any (Af As At : Option Addr) (w : World) (hB : BoardAt w Af As At exHall) :
    Calls Try.prog 38 #[.agg #[.slice Af 3 3, .slice As 3 3, .slice At 3 3]] w fun e w' => ∃ A n c, e = .returned (.tuple #[.slice A n c, .bool true, .int .i64 0]) ∧ 2 ≤ n ∧ Below w.heap.size w w' := by
  refine (hall_any exHall Af As At 3 3 3 w exHall_small hB).mono ?_
  rintro e w' ⟨hb, ⟨h, _⟩ | ⟨_, h, _⟩ | ⟨_, H, A, c, rfl, _, hS⟩⟩
  · exact absurd exHall_check h
  · exact absurd h exHall_none
  · exact ⟨A, _, c, rfl, exHall_long hS, hb⟩

/-- The cells of five new blocks. -/
def five (w : World) (a b c d e : Array Value) : World := ((((w.alloc (.cells a 26)).alloc (.cells b 3)).alloc (.cells c 3)).alloc (.cells d 3)).alloc (.cells e 22)
theorem five_below {w : World} {a b c d e : Array Value} : Below w.heap.size w (five w a b c d e) :=
  (((((Below.refl _ _).alloc (Nat.le_refl _) _).alloc (by simp) _).alloc (by simp; omega) _).alloc (by simp; omega) _).alloc (by simp; omega) _
theorem five_board (w : World) (Af As At : Option Addr) (a : Array Value) (hB : BoardAt w Af As At (exBoard 1)) :
    BoardAt (five w a #[.int .i64 0] #[.int .i64 0] #[.int .i64 0, .int .i64 1] #[.slice (some ⟨w.heap.size + 1, 0, none⟩) 1 1, .slice (some ⟨w.heap.size + 1 + 1, 0, none⟩) 1 1, .slice (some ⟨w.heap.size + 1 + 1 + 1, 0, none⟩) 2 2]) Af As (some ⟨w.heap.size + 1 + 1 + 1 + 1, 0, none⟩) exHall := by
  have k := Kept.of_below (five_below (w := w) (a := a) (b := #[.int .i64 0]) (c := #[.int .i64 0]) (d := #[.int .i64 0, .int .i64 1]) (e := #[.slice (some ⟨w.heap.size + 1, 0, none⟩) 1 1, .slice (some ⟨w.heap.size + 1 + 1, 0, none⟩) 1 1, .slice (some ⟨w.heap.size + 1 + 1 + 1, 0, none⟩) 2 2]))
  refine ⟨hB.finds.kept k, hB.slots.kept k, fun _ => ⟨w.heap.size + 1 + 1 + 1 + 1, 0, rfl, fun j hj => ?_⟩⟩
  match j, hj with
  | 0, _ =>
    refine ⟨some ⟨w.heap.size + 1, 0, none⟩, 1, at_alloc (by simp) rfl, fun _ => ⟨w.heap.size + 1, 0, rfl, fun i hi => ?_⟩⟩
    match i, hi with
    | 0, _ => exact past_alloc (by simp) (past_alloc (by simp) (past_alloc (by simp) (at_alloc (by simp) rfl)))
    | (n + 1), h => exact absurd h (by simp [exHall])
  | 1, _ =>
    refine ⟨some ⟨w.heap.size + 1 + 1, 0, none⟩, 1, at_alloc (by simp) rfl, fun _ => ⟨w.heap.size + 1 + 1, 0, rfl, fun i hi => ?_⟩⟩
    match i, hi with
    | 0, _ => exact past_alloc (by simp) (past_alloc (by simp) (at_alloc (by simp) rfl))
    | (n + 1), h => exact absurd h (by simp [exHall])
  | 2, _ =>
    refine ⟨some ⟨w.heap.size + 1 + 1 + 1, 0, none⟩, 2, at_alloc (by simp) rfl, fun _ => ⟨w.heap.size + 1 + 1 + 1, 0, rfl, fun i hi => ?_⟩⟩
    match i, hi with
    | 0, _ => exact past_alloc (by simp) (at_alloc (by simp) rfl)
    | 1, _ => exact past_alloc (by simp) (at_alloc (by simp) rfl)
    | (n + 2), h => exact absurd h (by simp [exHall])
  | (n + 3), h => exact absurd h (by simp [exHall])

theorem same_lit {g : Nat} {A : Option Addr} {c m n : Nat} (xs ys : List Int) (w : World) (hm : xs.length = m) (hn : ys.length = n) (hl : xs.length ≤ 100) (hl2 : ys.length ≤ 100) (hA : IntsAt w A xs) (hg : RowAt (Value.int .i64) w g ys) {k : Nat} (he : xs = ys) :
    Calls Try.prog 22 #[.slice A m c, .slice (some ⟨g, 0, none⟩) n k] w fun e w' => e = .returned (.bool true) ∧ Drew w w' := by
  subst hm hn
  exact same_t A (some ⟨g, 0, none⟩) c k xs ys w (by omega) (by omega) hA hg.intsAt (by simp [he])
theorem row_lit (w : World) (ys : List Int) : RowAt (Value.int .i64) (w.alloc (.cells (ints ys).toArray 3)) w.heap.size ys := fun j hj => by
  refine ⟨at_alloc rfl (by simp [ints, hj]), by simp⟩

set_option maxRecDepth 100000 in
set_option maxHeartbeats 16000000 in
/-- The check on the chapter's examples is true. -/
theorem matched_true (w : World) : Calls Try.prog 14 #[] w fun e w' => e = .returned (.bool true) ∧ Below w.heap.size w w' := by
  go_enter Try.func14, Try.ntmps14
  go_wp2_with fail
  refine (exBoard_any 1 w).mono ?_
  rintro e w1 ⟨Af1, As1, At1, rfl, hB1, hb1⟩
  have HB := hid hB1
  have HBL := hid hb1
  clear hB1 hb1
  go_wp2_with fail
  refine (exAssign Af1 As1 At1 w1 HB.out).mono ?_
  rintro e w2 ⟨A2, c2, rfl, hA2, hb2⟩
  have HA2 := hid hA2
  have HBL2 := hid (HBL.out.trans (hb2.mono HBL.out.size))
  clear hA2 hb2 HB HBL
  go_wp2_with fail
  refine (exBoard_any 1 w2).mono ?_
  rintro e w3 ⟨Af3, As3, At3, rfl, hB3, hb3⟩
  have HB := hid hB3
  have HA3 := hid (HA2.out.kept (Kept.of_below hb3))
  have HBL3 := hid (HBL2.out.trans (hb3.mono HBL2.out.size))
  clear hB3 hb3 HA2 HBL2
  go_wp2_with fail
  refine (exMust 1 (.inl rfl) _ ex1_must rfl Af3 As3 At3 w3 HB.out).mono ?_
  rintro e w4 ⟨A4, c4, rfl, hA4, hb4⟩
  have HA4 := hid hA4
  have HA24 := hid (HA3.out.kept (Kept.of_below hb4))
  have HBL4 := hid (HBL3.out.trans (hb4.mono HBL3.out.size))
  clear hA4 hb4 HB HBL3 HA3
  go_wp2_with fail
  refine (exBoard_any 2 w4).mono ?_
  rintro e w5 ⟨Af5, As5, At5, rfl, hB5, hb5⟩
  have HB := hid hB5
  have HA25 := hid (HA24.out.kept (Kept.of_below hb5))
  have HA45 := hid (HA4.out.kept (Kept.of_below hb5))
  have HBL5 := hid (HBL4.out.trans (hb5.mono HBL4.out.size))
  clear hB5 hb5 HA24 HA4 HBL4
  go_wp2_with fail
  refine (exMust 2 (.inr rfl) _ ex2_must rfl Af5 As5 At5 w5 HB.out).mono ?_
  rintro e w6 ⟨A6, c6, rfl, hA6, hb6⟩
  have HA6 := hid hA6
  have HA26 := hid (HA25.out.kept (Kept.of_below hb6))
  have HA46 := hid (HA45.out.kept (Kept.of_below hb6))
  have HBL6 := hid (HBL5.out.trans (hb6.mono HBL5.out.size))
  clear hA6 hb6 HB HBL5 HA25 HA45
  go_wp2_with fail
  refine (exBoard_any 1 w6).mono ?_
  rintro e w7 ⟨Af7, As7, At7, rfl, hB7, hb7⟩
  have HB := hid hB7
  have HA27 := hid (HA26.out.kept (Kept.of_below hb7))
  have HA47 := hid (HA46.out.kept (Kept.of_below hb7))
  have HA67 := hid (HA6.out.kept (Kept.of_below hb7))
  have HBL7 := hid (HBL6.out.trans (hb7.mono HBL6.out.size))
  clear hB7 hb7 HA26 HA46 HA6 HBL6
  go_wp2_with fail
  refine (exRefuse Af7 As7 At7 w7 HB.out).mono ?_
  rintro e w8 ⟨A8, c8, rfl, hA8, hb8⟩
  have HA8 := hid hA8
  have HA28 := hid (HA27.out.kept (Kept.of_below hb8))
  have HA48 := hid (HA47.out.kept (Kept.of_below hb8))
  have HA68 := hid (HA67.out.kept (Kept.of_below hb8))
  have HBL8 := hid (HBL7.out.trans (hb8.mono HBL7.out.size))
  clear hA8 hb8 HB HBL7 HA27 HA47 HA67
  go_wp2_with fail
  refine (exBoard_any 2 w8).mono ?_
  rintro e w9 ⟨Af9, As9, At9, rfl, hB9, hb9⟩
  have HB := hid hB9
  have k9 := Kept.of_below hb9
  have HA29 := hid (HA28.out.kept k9)
  have HA49 := hid (HA48.out.kept k9)
  have HA69 := hid (HA68.out.kept k9)
  have HA89 := hid (HA8.out.kept k9)
  have HBL9 := hid (HBL8.out.trans (hb9.mono HBL8.out.size))
  clear hB9 hb9 HA28 HA48 HA68 HA8 HBL8 k9
  go_wp2_with fail
  refine (exLoad Af9 As9 At9 w9 HB.out).mono ?_
  rintro e w10 ⟨rfl, hb10⟩
  have k10 := Kept.of_below hb10
  have HA210 := hid (HA29.out.kept k10)
  have HA410 := hid (HA49.out.kept k10)
  have HA610 := hid (HA69.out.kept k10)
  have HA810 := hid (HA89.out.kept k10)
  have HBL10 := hid (HBL9.out.trans (hb10.mono HBL9.out.size))
  clear hb10 HB HBL9 HA29 HA49 HA69 HA89 k10
  go_wp2_with fail
  refine (exBoard_any 1 w10).mono ?_
  rintro e w11 ⟨Af11, As11, At11, rfl, hB11, hb11⟩
  have k11 := Kept.of_below hb11
  have HB := hid hB11
  have HA211 := hid (HA210.out.kept k11)
  have HA411 := hid (HA410.out.kept k11)
  have HA611 := hid (HA610.out.kept k11)
  have HA811 := hid (HA810.out.kept k11)
  have HBL11 := hid (HBL10.out.trans (hb11.mono HBL10.out.size))
  clear hB11 hb11 HA210 HA410 HA610 HA810 HBL10 k11
  go_wp2_with fail
  have hfb := five_board w11 Af11 As11 At11 #[.slice Af11 3 3, .slice As11 3 3, .slice (some ⟨w11.heap.size + 1 + 1 + 1 + 1, 0, none⟩) 3 3] HB.out
  refine (exHall_any Af11 As11 _ _ hfb).mono ?_
  rintro e w12 ⟨A12, n12, c12, rfl, hn12, hb12⟩
  have hb12' := five_below.trans (hb12.mono five_below.size)
  have k12 := Kept.of_below hb12'
  have HA212 := hid (HA211.out.kept k12)
  have HA412 := hid (HA411.out.kept k12)
  have HA612 := hid (HA611.out.kept k12)
  have HA812 := hid (HA811.out.kept k12)
  have HBL12 := hid (HBL11.out.trans (hb12'.mono HBL11.out.size))
  have d12 : decide ((2 : Int) ≤ n12) = true := by simp; omega
  clear hb12 hb12' HB hfb HBL11 HA211 HA411 HA611 HA811 k12
  go_wp2_with fail
  have al : ∀ (w : World) (o : Obj), Below w.heap.size w (w.alloc o) := fun _ _ => (Below.refl _ _).alloc (Nat.le_refl _) _
  have AL := hid al
  clear al
  refine (same_lit [0, 1, 2] [0, 1, 2] _ rfl rfl (by simp) (by simp) (HA212.out.kept (Kept.of_below (AL.out _ _))) (row_lit w12 [0, 1, 2]) rfl).mono ?_
  rintro e w13 ⟨rfl, hd13⟩
  have hb13 : Below w12.heap.size w12 w13 := (AL.out w12 _).trans (hd13.below _)
  have HB13 := hid hb13
  have HA413 := hid (HA412.out.kept (Kept.of_below hb13))
  have HA613 := hid (HA612.out.kept (Kept.of_below hb13))
  have HA813 := hid (HA812.out.kept (Kept.of_below hb13))
  clear hd13 hb13 HA412 HA612 HA812 HA212
  go_wp2_with fail
  refine (same_lit [0, 1, 2] [0, 1, 2] _ rfl rfl (by simp) (by simp) (HA413.out.kept (Kept.of_below (AL.out _ _))) (row_lit w13 [0, 1, 2]) rfl).mono ?_
  rintro e w14 ⟨rfl, hd14⟩
  have hb14 : Below w13.heap.size w13 w14 := (AL.out w13 _).trans (hd14.below _)
  have HB14 := hid (HB13.out.trans (hb14.mono HB13.out.size))
  have HA614 := hid (HA613.out.kept (Kept.of_below hb14))
  have HA814 := hid (HA813.out.kept (Kept.of_below hb14))
  clear hd14 hb14 HA413 HA613 HA813 HB13
  go_wp2_with fail
  refine (same_lit [0, -1, -1] [0, -1, -1] _ rfl rfl (by simp) (by simp) (HA614.out.kept (Kept.of_below (AL.out _ _))) (row_lit w14 [0, -1, -1]) rfl).mono ?_
  rintro e w15 ⟨rfl, hd15⟩
  have hb15 : Below w14.heap.size w14 w15 := (AL.out w14 _).trans (hd15.below _)
  have HB15 := hid (HB14.out.trans (hb15.mono HB14.out.size))
  have HA815 := hid (HA814.out.kept (Kept.of_below hb15))
  clear hd15 hb15 HA614 HA814 HB14
  go_wp2_with fail
  refine (same_lit [0, 1] [0, 1] _ rfl rfl (by simp) (by simp) (HA815.out.kept (Kept.of_below (AL.out _ _))) (row_lit w15 [0, 1]) rfl).mono ?_
  rintro e w16 ⟨rfl, hd16⟩
  have hb16 : Below w15.heap.size w15 w16 := (AL.out w15 _).trans (hd16.below _)
  have HB16 := hid (HB15.out.trans (hb16.mono HB15.out.size))
  clear hd16 hb16 HA815 HB15
  go_wp2_with fail
  go_ret
  exact ⟨rfl, HBL12.out.trans (HB16.out.mono HBL12.out.size)⟩
end Go.Proofs.Ytpmdjbjnihhjeaa
