/- The program's CheckBoard returns Board.check. -/
import Derived.Test.YtpmdjbjnihhjeaaMaps
namespace Go.Proofs.Ytpmdjbjnihhjeaa
open Go.RowKit

theorem SlotsTo.lt {l : List Slot} {k : Nat} (h : SlotsTo l k) : ∀ (j i : Nat) (hj : j < l.length) (hi : i < l.length), j < k → i < j → (l[i]).lt l[j]
  | 0, _, _, _, _, h0 => absurd h0 (by omega)
  | j + 1, i, hj, hi, hjk, hij => by
    have h1 := (h (j + 1) hj hjk).2 (by omega)
    simp only [Nat.add_sub_cancel] at h1
    rcases Nat.lt_or_ge i j with hlt | hge
    · have h2 := SlotsTo.lt h j i (by omega) hi (by omega) hlt
      unfold Slot.lt at *
      omega
    · obtain rfl : i = j := by omega
      exact h1

def Slot.key (s : Slot) : Slot := ⟨s.loss, s.pack, 0⟩
def keysTo (l : List Slot) (k : Nat) : List (Slot × Bool) := (l.take k).map fun s => (s.key, true)
theorem look_keys (a : Slot) : ∀ (l : List Slot) (i : Nat), (∃ j, look a (l.map fun s => (s.key, true)) i = some (j, true)) ∧ (∃ s ∈ l, s.key = a) ∨ look a (l.map fun s => (s.key, true)) i = none ∧ ∀ s ∈ l, s.key ≠ a
  | [], i => .inr ⟨rfl, by simp⟩
  | s :: l, i => by
    by_cases h : a = s.key
    · exact .inl ⟨⟨i, by simp [look, h]⟩, ⟨s, by simp, h.symm⟩⟩
    · rcases look_keys a l (i + 1) with ⟨⟨j, h1⟩, ⟨x, hx, h2⟩⟩ | ⟨h1, h2⟩
      · exact .inl ⟨⟨j, by simpa [look, h] using h1⟩, ⟨x, by simp [hx], h2⟩⟩
      · exact .inr ⟨by simpa [look, h] using h1, by
          intro x hx
          simp only [List.mem_cons] at hx
          rcases hx with rfl | hx
          · exact fun e => h e.symm
          · exact h2 x hx⟩

theorem keys_store {l : List Slot} {k : Nat} (hk : k < l.length) (h : look l[k].key ((l.take k).map fun s => (s.key, true)) 0 = none) : store (keysTo l k) l[k].key true = keysTo l (k + 1) := by
  unfold store keysTo
  rw [h, List.take_succ_eq_append_getElem hk, List.map_append]
  rfl
theorem mapNew (w : World) : ∃ V, w.alloc (.map #[] 0) = V ∧ MapAt V w.heap.size eSlot Value.bool ([] : List (Slot × Bool)) ∧ Below w.heap.size w V ∧ V.heap.size = w.heap.size + 1 :=
  ⟨_, rfl, MapAt.new w, (Below.refl _ _).alloc (Nat.le_refl _) _, by simp⟩
theorem bool_zero (w : World) : (zeroValue 4).run Try.prog w = .ok (.bool false) w := by kernel_rfl
theorem map_u : Try.prog.underlying 97 = some (.map 50 4) := by kernel_rfl

set_option maxRecDepth 100000 in
set_option maxHeartbeats 4000000 in
theorem check_any (Af As At : Option Addr) (cf cs ct : Nat) (b : Board) (w : World) (hs : b.small) (hB : BoardAt w Af As At b) :
    Calls Try.prog 47 #[.agg #[.slice Af b.finds.length cf, .slice As b.slots.length cs, .slice At b.fits.length ct]] w fun e w' => e = .returned (.int .i64 b.check) ∧ Below w.heap.size w w' := by
  obtain ⟨h1, h2, h3, h4⟩ := hs
  have HB := hid hB
  have H4 := hid h4
  clear hB h4
  obtain ⟨W, hW, c0, c1, c2, hbW, hz⟩ := box3 w (.slice Af b.finds.length cf) (.slice As b.slots.length cs) (.slice At b.fits.length ct) 26
  by_cases hf : 60 < b.finds.length
  · go_enter Try.func47, Try.ntmps47
    go_wp2
    go_ret
    exact ⟨ret_int (Board.check_two (.inl hf)).symm, hbW⟩
  by_cases hsl : 200 < b.slots.length
  · go_enter Try.func47, Try.ntmps47
    go_wp2
    go_ret
    exact ⟨ret_int (Board.check_two (.inr hsl)).symm, hbW⟩
  have bad : ¬ b.Good → (1 : Int) = b.check := fun h => (Board.check_one hf hsl h).symm
  have good : b.Good → (0 : Int) = b.check := fun h => (Board.check_ok hf hsl h).symm
  have BAD := hid bad
  have GOOD := hid good
  have HK := hid (Kept.of_below hbW)
  have HZ := hid hbW
  have HQ : Hid (W.heap.size = w.heap.size + 1) := hid hz
  clear bad good hbW hz
  have hmm := @run_makeMap Try.prog
  rcases ht : decide (Rise b.finds 10 10000007) with _ | _
  · have HT := hid ht
    clear ht
    go_enter Try.func47, Try.ntmps47
    go_wp2_with (go_at_call 68; refine (rising_t _ _ _ _ _ _ (by omega) (HB.out.kept HK.out).finds HT.out).mono ?_; rintro e w' ⟨rfl, rfl⟩)
    go_ret
    exact ⟨ret_int (BAD.out fun h => absurd h.finds (of_decide_eq_false HT.out)), HZ.out⟩
  have HT := hid ht
  clear ht
  by_cases hl : b.fits.length = b.finds.length
  case neg =>
    have d0 : ((b.fits.length : Int) != b.finds.length) = true := by simp; omega
    go_enter Try.func47, Try.ntmps47
    go_wp2_with (go_at_call 68; refine (rising_t _ _ _ _ _ _ (by omega) (HB.out.kept HK.out).finds HT.out).mono ?_; rintro e w' ⟨rfl, rfl⟩)
    go_ret
    exact ⟨ret_int (BAD.out fun h => hl h.len), HZ.out⟩
  have d0 : ((b.fits.length : Int) != b.finds.length) = false := by simp; omega
  have HL := hid hl
  clear hl
  obtain ⟨V, hV, hmap, hbV, hzV⟩ := mapNew W
  have kV := Kept.of_below hbV
  have c0V := kV _ _ c0
  have c1V := kV _ _ c1
  have c2V := kV _ _ c2
  have HKV := hid (HK.out.trans kV)
  have HZV := hid (HZ.out.trans (hbV.mono HZ.out.size))
  have HQV : Hid (V.heap.size = W.heap.size + 1 ∧ W.heap.size = w.heap.size + 1) := hid ⟨hzV, HQ.out⟩
  have HM := hid hmap
  clear kV hzV hbV HQ HZ hmap
  go_enter Try.func47, Try.ntmps47
  go_wp2_with (go_at_call 68; refine (rising_t _ _ _ _ _ _ (by omega) (HB.out.kept HK.out).finds HT.out).mono ?_; rintro e w' ⟨rfl, rfl⟩)
  clear hW c0 c1 c2 HK
  go_loopw [34, 5, 4, 6] (fun i _ _ _ wr => Below W.heap.size V wr ∧ ∃ k : Nat, k ≤ b.slots.length ∧ i = .int .i64 k ∧ Hid (SlotsTo b.slots k) ∧ Hid (MapAt wr W.heap.size eSlot Value.bool (keysTo b.slots k))) (fun i _ _ _ _ => b.slots.length - (intOf i).toNat)
  case atStart => exact ⟨Below.refl _ _, 0, by omega, rfl, hid (by intro j _ h; omega), hid (by simpa [keysTo] using HM.out)⟩
  case round =>
    obtain ⟨hb, k, hk, rfl, hn, hm⟩ := hrel
    have hq := HQV.out
    have hwz : w.heap.size < W.heap.size := by omega
    have e1 := (hb.cell (p := ⟨w.heap.size, 1, none⟩) hwz).trans c1V
    have e2 := (hb.cell (p := ⟨w.heap.size, 2, none⟩) hwz).trans c2V
    have HB0 : Below w.heap.size w wr := HZV.out.trans (hb.mono (by omega))
    have HK0 := hid (Kept.of_below HB0)
    clear hq
    by_cases hlt : k < b.slots.length
    · obtain ⟨c, off, rfl, hc⟩ := (HB.out.kept HK0.out).slots (by omega)
      obtain ⟨f0, f1, f2⟩ := hc k hlt
      obtain ⟨g0, g1, g2⟩ := hc (k - 1) (by omega)
      clear hc
      have hi0 : (0 : Int) ≤ ↑k := by omega
      have hi1 : (k : Int) < ↑b.slots.length := by omega
      obtain ⟨W2, hW2, i0, i1, i2, hbW2, hz2⟩ := box3 wr (.int .i64 b.slots[k].loss) (.int .i64 b.slots[k].pack) (.int .i64 b.slots[k].pieces) 50
      obtain ⟨W3, hW3, j0, j1, j2, hbW3, hz3⟩ := box3 W2 (.int .i64 b.slots[k].loss) (.int .i64 b.slots[k].pack) (.int .i64 0) 50
      have HB2 : Below w.heap.size w W2 := HB0.trans (hbW2.mono HB0.size)
      have HB3 : Below w.heap.size w W3 := HB2.trans (hbW3.mono HB2.size)
      have HH2 : Below W.heap.size V W2 := hb.trans (hbW2.mono (by have := hb.size; have := HQV.out; omega))
      have HH3 : Below W.heap.size V W3 := HH2.trans (hbW3.mono (by have := HH2.size; have := HQV.out; omega))
      have hm3 := (hm.out.below hbW2).below hbW3
      have kp2 := Kept.of_below hbW2
      have kp3 := Kept.of_below hbW3
      have x0 := kp3 _ _ i0
      have x1 := kp3 _ _ i1
      have x2 := kp3 _ _ i2
      have y1 := kp3 _ _ (kp2 _ _ e1)
      have r0 := kp3 _ _ (kp2 _ _ g0)
      have r1 := kp3 _ _ (kp2 _ _ g1)
      clear kp2 kp3 g0 g1 g2 hbW2 hbW3 hz2 hz3
      have HM3 := hid hm3
      have HW3 := hid hW3
      clear hm3 hW3
      rcases hp1 : inB b.slots[k].loss 1 20 with _ | _
      · go_wp2_with (go_at_call 82; refine (in_any _ _ _ _).mono ?_; rintro e w' ⟨rfl, rfl⟩)
        go_ret
        exact ⟨ret_int (BAD.out fun h => by have := (h.slots k hlt hlt).1; unfold Slot.ok at this; simp [inB] at hp1; omega), HB2⟩
      rcases hp2 : inB b.slots[k].pack 1 200 with _ | _
      · go_wp2_with (go_at_call 82; refine (in_any _ _ _ _).mono ?_; rintro e w' ⟨rfl, rfl⟩)
        go_ret
        exact ⟨ret_int (BAD.out fun h => by have := (h.slots k hlt hlt).1; unfold Slot.ok at this; simp [inB] at hp2; omega), HB2⟩
      rcases hp3 : inB b.slots[k].pieces 1 20 with _ | _
      · go_wp2_with (go_at_call 82; refine (in_any _ _ _ _).mono ?_; rintro e w' ⟨rfl, rfl⟩)
        go_ret
        exact ⟨ret_int (BAD.out fun h => by have := (h.slots k hlt hlt).1; unfold Slot.ok at this; simp [inB] at hp3; omega), HB2⟩
      have hok : Hid (b.slots[k].ok) := hid (by simp [inB] at hp1 hp2 hp3; exact ⟨hp1.1, hp1.2, hp2.1, hp2.2, hp3.1, hp3.2⟩)
      have hlook : ∀ n, Sem.run Try.prog (Instr.lookup 97 (.map (some W.heap.size)) (.agg #[.int .i64 b.slots[k].loss, .int .i64 b.slots[k].pack, .int .i64 0]) false) (W3.drewN n) = .ok (found (.bool false) Value.bool (look b.slots[k].key (keysTo b.slots k) 0)) (W3.drewN n) :=
        fun n => run_look (w := W3.drewN n) slot_fits map_u (.bool false) (bool_zero _) (HM3.out.same rfl) b.slots[k].key
      rcases look_keys b.slots[k].key (b.slots.take k) 0 with ⟨⟨j, hj⟩, ⟨x, hx, hxk⟩⟩ | ⟨hj, hno⟩
      · have hlk : ∀ n, Sem.run Try.prog (Instr.lookup 97 (.map (some W.heap.size)) (.agg #[.int .i64 b.slots[k].loss, .int .i64 b.slots[k].pack, .int .i64 0]) false) (W3.drewN n) = .ok (.bool true) (W3.drewN n) := fun n => by
          rw [hlook n]; unfold keysTo; rw [hj]; rfl
        have hbad : ¬ b.Good := fun h => by
          obtain ⟨i, hi, rfl⟩ := List.getElem_of_mem hx
          simp only [List.length_take] at hi
          have hlt2 := SlotsTo.lt h.slots k i hlt (by omega) hlt (by omega)
          simp only [List.getElem_take, Slot.key, Slot.mk.injEq] at hxk
          unfold Slot.lt at hlt2
          omega
        clear hj hx hxk hlook
        go_wp2_with (go_at_call 82; refine (in_any _ _ _ _).mono ?_; rintro e w' ⟨rfl, rfl⟩)
        rw [HW3.out]
        clear hW2 HW3 i0 i1 i2 e1 e2
        go_quiet (fail)
        go_wp2
        go_ret
        exact ⟨ret_int (BAD.out hbad), Below.drewN' HB3 _⟩
      have hlk : ∀ n, Sem.run Try.prog (Instr.lookup 97 (.map (some W.heap.size)) (.agg #[.int .i64 b.slots[k].loss, .int .i64 b.slots[k].pack, .int .i64 0]) false) (W3.drewN n) = .ok (.bool false) (W3.drewN n) := fun n => by
        rw [hlook n]; unfold keysTo; rw [hj]; rfl
      have HNO := hid hno
      have HJ := hid hj
      clear hj hno hlook
      go_wp2_with (go_at_call 82; refine (in_any _ _ _ _).mono ?_; rintro e w' ⟨rfl, rfl⟩)
      rw [HW3.out]
      clear hW2 HW3 i0 i1 i2 e1 e2
      by_cases hk0 : 0 < k
      · have d3 : decide ((0 : Int) < ↑k) = true := by simp; omega
        have hprev : ¬ (b.slots[k - 1].loss = b.slots[k].loss ∧ b.slots[k - 1].pack = b.slots[k].pack) := fun h => HNO.out b.slots[k - 1] (by
          rw [show b.slots[k - 1] = (b.slots.take k)[k - 1]'(by simp; omega) from by simp]; exact List.getElem_mem _) (by unfold Slot.key; rw [h.1, h.2])
        by_cases t1 : b.slots[k].loss < b.slots[k - 1].loss
        · have d4 : decide (b.slots[k].loss < b.slots[k - 1].loss) = true := by simpa using t1
          clear hprev
          go_quiet (fail)
          go_wp2
          go_ret
          exact ⟨ret_int (BAD.out fun h => by have := (h.slots k hlt hlt).2 hk0; unfold Slot.lt at this; omega), Below.drewN' HB3 _⟩
        have d4 : decide (b.slots[k].loss < b.slots[k - 1].loss) = false := by simpa using t1
        by_cases t2 : b.slots[k].loss = b.slots[k - 1].loss
        · have T2 := hid t2
          have d5 : (b.slots[k].loss == b.slots[k - 1].loss) = true := by simpa using t2
          clear t2
          by_cases t3 : b.slots[k].pack < b.slots[k - 1].pack
          · have d6 : decide (b.slots[k].pack < b.slots[k - 1].pack) = true := by simpa using t3
            clear hprev
            go_quiet (fail)
            go_wp2
            go_ret
            exact ⟨ret_int (BAD.out fun h => by have := (h.slots k hlt hlt).2 hk0; have := T2.out; unfold Slot.lt at *; omega), Below.drewN' HB3 _⟩
          · have d6 : decide (b.slots[k].pack < b.slots[k - 1].pack) = false := by simpa using t3
            have HP := hid hprev
            clear hprev
            go_quiet (fail)
            obtain ⟨w4, hrun, hm4, hg4⟩ := run_store (w := W3.drewN nq) slot_fits map_u (HM3.out.same rfl) b.slots[k].key true
            unfold eSlot Slot.key at hrun
            go_wp2
            go_roundw
            case rel => exact ⟨(Below.drewN' HH3 _).grown hg4 (by have := HH3.size; have := HQV.out; simp; omega) (fun g e => by cases e; exact Nat.le_refl _), k + 1, by omega, by go_num, hid (hn.out.succ hlt hok.out (fun _ => by have := T2.out; have := HP.out; unfold Slot.lt; omega)), hid (by rw [← keys_store hlt HJ.out]; exact hm4)⟩
            case measure => simp [intOf]; omega
        · have T2 := hid t2
          have d5 : (b.slots[k].loss == b.slots[k - 1].loss) = false := by simpa using t2
          clear t2 hprev
          go_quiet (fail)
          obtain ⟨w4, hrun, hm4, hg4⟩ := run_store (w := W3.drewN nq) slot_fits map_u (HM3.out.same rfl) b.slots[k].key true
          unfold eSlot Slot.key at hrun
          go_wp2
          go_roundw
          case rel => exact ⟨(Below.drewN' HH3 _).grown hg4 (by have := HH3.size; have := HQV.out; simp; omega) (fun g e => by cases e; exact Nat.le_refl _), k + 1, by omega, by go_num, hid (hn.out.succ hlt hok.out (fun _ => by have := T2.out; unfold Slot.lt; omega)), hid (by rw [← keys_store hlt HJ.out]; exact hm4)⟩
          case measure => simp [intOf]; omega
      · have d3 : decide ((0 : Int) < ↑k) = false := by simp; omega
        go_quiet (fail)
        obtain ⟨w4, hrun, hm4, hg4⟩ := run_store (w := W3.drewN nq) slot_fits map_u (HM3.out.same rfl) b.slots[k].key true
        unfold eSlot Slot.key at hrun
        go_wp2
        go_roundw
        case rel => exact ⟨(Below.drewN' HH3 _).grown hg4 (by have := HH3.size; have := HQV.out; simp; omega) (fun g e => by cases e; exact Nat.le_refl _), k + 1, by omega, by go_num, hid (hn.out.succ hlt hok.out (fun h => by omega)), hid (by rw [← keys_store hlt HJ.out]; exact hm4)⟩
        case measure => simp [intOf]; omega
    · have HS : Hid (SlotsOk b.slots) := hid (fun j hj hjk => hn.out j hj (by omega))
      clear hn hm
      rcases hq : decide (∀ l ∈ b.fits, Rise l 0 ((b.slots.length : Int) - 1)) with _ | _
      · have HQ := hid hq
        clear hq
        go_wp2_with (go_at_call 83; refine (containsFunc84_any _ _ _ _ _ _ _ _ (by omega) (fun l hl => by have := H4.out l hl; omega) (HB.out.kept HK0.out).fits (by omega) (by assumption) (t := true) HQ.out).mono ?_; rintro e w' ⟨rfl, rfl⟩)
        go_ret
        exact ⟨ret_int (BAD.out fun h => absurd h.fits (of_decide_eq_false HQ.out)), HB0⟩
      · have HQ := hid hq
        clear hq
        go_wp2_with (go_at_call 83; refine (containsFunc84_any _ _ _ _ _ _ _ _ (by omega) (fun l hl => by have := H4.out l hl; omega) (HB.out.kept HK0.out).fits (by omega) (by assumption) (t := false) HQ.out).mono ?_; rintro e w' ⟨rfl, rfl⟩)
        go_ret
        exact ⟨ret_int (GOOD.out ⟨of_decide_eq_true HT.out, HS.out, HL.out, of_decide_eq_true HQ.out⟩), HB0⟩
end Go.Proofs.Ytpmdjbjnihhjeaa
