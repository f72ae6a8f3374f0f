/- slices.Repeat of one number. -/
import Derived.Test.YtpmdjbjnihhjeaaOwn
import Derived.Test.YtpmdjbjnihhjeaaShelf
import Derived.Laws.CopyOwn
import Derived.Deep.RegionLaw
import Derived.Deep.AppendLies
import Derived.StillTailTactics
namespace Go.Proofs.Ytpmdjbjnihhjeaa
open Go.RowKit

/-- Block g is the cells cs, of type t, none frozen. -/
def Block (w : World) (g : Nat) (t : TypeId) (cs : List Value) : Prop := w.heap[g]? = some (.cells cs.toArray t (0, 0))

theorem own_block {w : World} {base g n : Nat} {e : TypeId} {us : List Value} (h : w.ownsRow base e 1 (.slice (some ⟨g, 0, none⟩) n n) n us) : Block w g e us ∧ us.length = n := by
  rcases h.2 with ⟨h1, _⟩ | ⟨g', cap, cur, h1, _, hg, _, _, hs, ht⟩
  · cases h1
  · cases h1
    have hlen := h.1
    refine ⟨?_, by omega⟩
    rw [List.take_of_length_le (by simp; omega)] at ht
    unfold Block
    rw [hg, ← ht]
theorem block_own {w : World} {base g n : Nat} {e : TypeId} {us : List Value} (h : Block w g e us) (hl : us.length = n) (hb : base ≤ g) (hn : n ≤ maxLen) : w.ownsRow base e 1 (.slice (some ⟨g, 0, none⟩) n n) n us :=
  ⟨by omega, .inr ⟨g, n, us.toArray, rfl, hb, h, Nat.le_refl _, hn, by simp [hl], by rw [List.take_of_length_le (by simp [hl])]⟩⟩
theorem Block.cell {w : World} {g : Nat} {e : TypeId} {us : List Value} (h : Block w g e us) (j : Nat) : w.cell? ⟨g, j, none⟩ = us[j]? := by
  unfold Block at h
  simp [World.cell?, h]
theorem made1 (u : Value) (n : Nat) : (madeCells #[u] n).toList = List.replicate n u := by
  apply List.ext_getElem
  · simp [madeCells]
  · intro k h1 h2
    simp [madeCells, Nat.mod_one]
theorem ints_replicate (n : Nat) (v : Int) : ints (List.replicate n v) = List.replicate n (.int .i64 v) := by simp [ints]

/-- k times v, then nothing yet. -/
def rep (n : Nat) (v : Int) (k : Nat) : List Int := List.replicate k v ++ List.replicate (n - k) 0
theorem rep_length {n : Nat} {v : Int} {k : Nat} (h : k ≤ n) : (rep n v k).length = n := by simp [rep]; omega
theorem rep_start {n : Nat} {v : Int} (h : 0 < n) : splice (ints (List.replicate n 0)) 0 [.int .i64 v] = ints (rep n v 1) := by
  obtain ⟨m, rfl⟩ : ∃ m, n = m + 1 := ⟨n - 1, by omega⟩
  simp [splice, rep, ints]
theorem splice_app {α : Type} (A Z B : List α) : splice (A ++ Z) A.length B = A ++ (B ++ Z.drop B.length) := by
  unfold splice
  rw [List.take_left, List.drop_append, List.drop_of_length_le (by omega), Nat.add_sub_cancel_left]
  rfl
theorem rep_more {n : Nat} {v : Int} {k : Nat} : splice (ints (rep n v k)) k (ints (List.replicate (Nat.min k (n - k)) v)) = ints (rep n v (k + Nat.min k (n - k))) := by
  have hm : Nat.min k (n - k) ≤ n - k := Nat.min_le_right _ _
  generalize Nat.min k (n - k) = m at hm
  have h3 := splice_app (List.replicate k (Value.int .i64 v)) (List.replicate (n - k) (.int .i64 0)) (List.replicate m (.int .i64 v))
  rw [List.length_replicate] at h3
  simp only [rep, ints_append, ints_replicate]
  rw [h3, List.length_replicate, List.drop_replicate, ← List.append_assoc, List.replicate_append_replicate, show n - k - m = n - (k + m) from by omega]
theorem ints_one (xs : List Int) : ∀ u ∈ ints xs, u.oneCell' = true := by
  intro u hu
  simp only [ints, List.mem_map] at hu
  obtain ⟨x, _, rfl⟩ := hu
  rfl
theorem mul_one (n : Nat) (hn : n ≤ 1000) (w : World) : Calls Try.prog 85 #[.int .u64 1, .int .u64 n] w fun e w' => e = .returned (.tuple #[.int .u64 0, .int .u64 n]) ∧ w = w' := by
  refine (Try.bits_Mul 1 n (by omega) (by omega) w).mono ?_
  rintro e w' ⟨rfl, rfl⟩
  rw [Nat.one_mul, Nat.div_eq_of_lt (by omega), Nat.mod_eq_of_lt (by omega)]
  exact ⟨rfl, rfl⟩

set_option maxRecDepth 100000 in
set_option maxHeartbeats 2000000 in
theorem repeat_any (b off cap : Nat) (v : Int) (n : Nat) (w : World) (hn : n ≤ 1000) (hc : w.cell? ⟨b, off, none⟩ = some (.int .i64 v)) :
    Calls Try.prog 54 #[.slice (some ⟨b, off, none⟩) 1 cap, .int .i64 n] w fun e w' => e = .returned (.slice (some ⟨w.heap.size, 0, none⟩) n n) ∧ w'.ownsRow w.heap.size 3 1 (.slice (some ⟨w.heap.size, 0, none⟩) n n) n (ints (List.replicate n v)) ∧ Below w.heap.size w w' := by
  have d0 : decide ((n : Int) < 0) = false := by simp
  have d1 : decide ((9223372036854775807 : Int) < (n : Int)) = false := by simp; omega
  obtain ⟨i, i1, i2, i3, i4⟩ := ints_info
  have IB : Hid (i.bytes = 8) := hid i4
  clear i4
  go_enter Try.func54, Try.ntmps54
  go_wp2_with fail
  refine (mul_one n hn _).mono ?_
  rintro e w' ⟨rfl, rfl⟩
  go_wp2_with (at_make; refine wpList_make_full _ rfl _ _ 22 rfl w.heap.size 3 i (.int .i64 0) 1 intsl_u i1 i2 i3 .i64 .i64 _ _ n rfl rfl rfl rfl ?_ ?_ (Nat.le_refl _) ?_)
  · rw [IB.out]; omega
  · unfold maxLen; omega
  rintro w1 hown hgrow
  rw [made1, ← ints_replicate] at hown
  have hblk := (own_block hown).1
  have hbel : Below w.heap.size w w1 := Below.of_grown hgrow (Nat.le_refl _) (fun k e => by cases e)
  clear hown hgrow
  have HBLK := hid hblk
  have hv := (Kept.of_below hbel) _ _ hc
  clear hblk
  rcases Nat.eq_zero_or_pos n with rfl | hpos
  · go_wp2_with (refine wpList_copy_splice rfl _ _ 22 22 rfl 3 intsl_u (by kernel_rfl) (some ⟨w.heap.size, 0, none⟩) (some ⟨b, off, none⟩) 0 0 1 cap rfl rfl w.heap.size 0 (ints (List.replicate 0 0)) 3 HBLK.out [] rfl (by simp) (by simp) (by simp) w.heap.size w hbel (Nat.le_refl _) ?_)
    intro w2 hb2 hbel2
    go_wp2
    go_loopw [8] (fun i wr => i = .int .i64 0 ∧ wr = w2) (fun _ _ => 0)
    case atStart => exact ⟨rfl, rfl⟩
    case round =>
      obtain ⟨rfl, rfl⟩ := hrel
      go_wp2
      go_ret
      exact ⟨rfl, block_own hb2.out rfl (Nat.le_refl _) (by decide), hbel2⟩
  · have e1 : Hid ([Value.int .i64 v].length = Nat.min 1 n) := hid (by simp [Nat.min_def]; omega)
    go_wp2_with (refine wpList_copy_splice rfl _ _ 22 22 rfl 3 intsl_u (by kernel_rfl) (some ⟨w.heap.size, 0, none⟩) (some ⟨b, off, none⟩) n n 1 cap rfl rfl w.heap.size 0 (ints (List.replicate n 0)) 3 HBLK.out [.int .i64 v] e1.out ?_ ?_ ?_ w.heap.size w hbel (Nat.le_refl _) ?_)
    · intro j u hj
      have hj0 : j = 0 := by have := (List.getElem?_eq_some_iff.1 hj).1; simpa using this
      subst hj0
      simp at hj
      subst hj
      exact hv
    · simp [ints]; omega
    · simp [Value.oneCell']
    intro w2 hb2 hbel2
    have hb2' : Hid (Block w2 w.heap.size 3 (ints (rep n v 1))) := hid (by rw [← rep_start hpos]; exact hb2.out)
    clear hb2 HBLK hbel hv
    go_wp2
    go_loopw [8] (fun i wr => Below w.heap.size w wr ∧ ∃ k : Nat, 1 ≤ k ∧ k ≤ n ∧ i = .int .i64 k ∧ Hid (Block wr w.heap.size 3 (ints (rep n v k)))) (fun i _ => n - (intOf i).toNat)
    case atStart => exact ⟨hbel2, 1, by omega, by omega, rfl, hb2'⟩
    case round =>
      clear hb2' hbel2
      obtain ⟨hb, k, hk1, hk2, rfl, hblk⟩ := hrel
      by_cases hlt : k < n
      · have z1 : (0 : Int) ≤ k := by omega
        have z2 : (k : Int) ≤ n := by omega
        have z3 : ¬ n = k := by omega
        go_wp2
        have hd : Hid (wr.drew.heap[w.heap.size]? = some (.cells (ints (rep n v k)).toArray 3 (0, 0))) := hid hblk.out
        have hcs : Hid ((ints (List.replicate (Nat.min k (n - k)) v)).length = Nat.min k (n - k)) := hid (by simp [ints])
        have hfit : Hid (k + (ints (List.replicate (Nat.min k (n - k)) v)).length ≤ (ints (rep n v k)).length) := hid (by rw [hcs.out, ints_length, rep_length hk2]; have : Nat.min k (n - k) ≤ n - k := Nat.min_le_right _ _; omega)
        have hbd : Hid (Below w.heap.size w wr.drew) := hid hb.drew
        have hread : Hid (∀ j u, (ints (List.replicate (Nat.min k (n - k)) v))[j]? = some u → wr.drew.cell? ((⟨w.heap.size, 0, none⟩ : Addr).add j) = some u) := hid fun j u hj => by
          have hl := (List.getElem?_eq_some_iff.1 hj).1
          rw [hcs.out] at hl
          have hmk : Nat.min k (n - k) ≤ k := Nat.min_le_left _ _
          rw [add_lit, Nat.zero_add, Block.cell hd.out, rep, ints_append, ints_replicate, List.getElem?_append_left (by simp; omega)]
          rw [ints_replicate] at hj
          simp only [List.getElem?_replicate] at hj ⊢
          rw [if_pos hl] at hj
          rw [if_pos (by omega)]
          exact hj
        go_region_law (refine step_copy_splice rfl (.tmp 41) (.tmp 44) 22 22 rfl 3 intsl_u (by kernel_rfl) (some ⟨w.heap.size, k, none⟩) (some ⟨w.heap.size, 0, none⟩) (n - k) (n - k) k n ?hd ?hs w.heap.size k (ints (rep n v k)) 3 hd.out (ints (List.replicate (Nat.min k (n - k)) v)) hcs.out (fun _ => ⟨rfl, _, rfl, hread.out⟩) hfit.out ?h1 w.heap.size w hbd.out (Nat.le_refl _) ?_
                       case hd => simp [Act.put, Act.eval]
                       case hs => simp [Act.put, Act.eval]
                       case h1 => exact ints_one _
                       intro w3 hb3 hbel3)
        have hb4 : Hid (Block w3 w.heap.size 3 (ints (rep n v (k + Nat.min k (n - k))))) := hid (by rw [← rep_more]; exact hb3.out)
        have hm1 : 1 ≤ Nat.min k (n - k) := Nat.le_min.2 ⟨hk1, by omega⟩
        have hm2 : Nat.min k (n - k) ≤ n - k := Nat.min_le_right _ _
        go_wp2
        go_roundw
        case rel =>
          (repeat apply Exists.intro)
          refine ⟨⟨hbel3, k + Nat.min k (n - k), by omega, by omega, ?_, hb4⟩, rfl⟩
          rw [ints_length, List.length_replicate, IntWalk.i64_in _ (by omega)]
          go_num
        case measure =>
          rw [ints_length, List.length_replicate, IntWalk.i64_in _ (by omega)]
          generalize Nat.min k (n - k) = m at hm1 hm2
          simp [intOf, Act.put]
          omega
      · obtain rfl : k = n := by omega
        go_wp2
        go_ret
        exact ⟨rfl, block_own (by have := hblk.out; simpa [rep] using this) (by simp [ints]) (Nat.le_refl _) (by unfold maxLen; omega), hb⟩
end Go.Proofs.Ytpmdjbjnihhjeaa
