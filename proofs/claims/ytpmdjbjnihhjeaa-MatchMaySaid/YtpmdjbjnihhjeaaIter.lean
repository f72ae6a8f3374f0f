/- The finds that a slot was given to, yielded one by one: the iterator, and the two loops that range over it. -/
import Derived.RangeFuncBox
import Derived.RangeFuncLeaves
import Derived.Shelf.Abstract
import Derived.OwnWalkIn
import Derived.TacticsInMore
import Derived.LoopNIn
import Derived.LoopIn
import Derived.Maps.AppendAt
import Derived.Test.YtpmdjbjnihhjeaaRepeat
namespace Go.Proofs.Ytpmdjbjnihhjeaa
open Go.RowKit Go.Shelf

attribute [local go_sem] Oper.semAt_some

/-- Which of the first k numbers of zs are s. -/
def holdTo (zs : List Int) (s : Int) (k : Nat) : List Nat := (List.range k).filter fun j => decide (zs[j]? = some s)
theorem holdTo_hit {zs : List Int} {s : Int} {k : Nat} (h : zs[k]? = some s) : holdTo zs s (k + 1) = holdTo zs s k ++ [k] := by
  unfold holdTo
  rw [List.range_succ, List.filter_append]
  simp [h]
theorem holdTo_miss {zs : List Int} {s : Int} {k : Nat} (h : zs[k]? ≠ some s) : holdTo zs s (k + 1) = holdTo zs s k := by
  unfold holdTo
  rw [List.range_succ, List.filter_append]
  simp [h]
theorem holdTo_le (zs : List Int) (s : Int) (k : Nat) : (holdTo zs s k).length ≤ k := by
  unfold holdTo
  have := List.length_filter_le (fun j => decide (zs[j]? = some s)) (List.range k)
  simpa using this
def hold (zs : List Int) (s : Int) : List Nat := holdTo zs s zs.length

def encs (x : Nat) : Array Value := #[.int .i64 (x : Int)]
/-- What lay below n₀ lies, and the box B holds what it held. -/
def Keep1 (n₀ B : Nat) (W W' : World) : Prop := Below n₀ W W' ∧ ∀ v, W.cell? ⟨B, 0, none⟩ = some v → W'.cell? ⟨B, 0, none⟩ = some v
theorem Keep1.t {n₀ B : Nat} {A C D : World} (h : Keep1 n₀ B A C) (k : Keep1 n₀ B C D) : Keep1 n₀ B A D := ⟨h.1.trans k.1, fun v hv => k.2 v (h.2 v hv)⟩
theorem Keep1.b {n₀ B : Nat} {w : World} (hn : n₀ ≤ w.heap.size) (W : World) (l : Nat) (o o' : Obj) (hl : w.heap.size ≤ l) (h : W.heap[l]? = some o) (hc : o.isCells = false) (hw : o.isWalk = false) : Keep1 n₀ B W (W.putObj l o') := by
  refine ⟨belowK_b hn W l o o' hl h hc hw, fun v hv => ?_⟩
  obtain ⟨o2, h2, h3⟩ := cells_of_cell hv
  have hne : B ≠ l := by
    rintro rfl
    have h2' : W.heap[B]? = some o2 := h2
    rw [h] at h2'
    cases h2'
    rw [hc] at h3
    cases h3
  exact (World.cell?_of_block (w := W) (World.putObj_heap_other hne)).trans hv

set_option maxRecDepth 100000 in
set_option maxHeartbeats 2000000 in
theorem at1_in (F : Fence) (n : Nat) (h100 : F.fn 100) (hro : F.round = none) (hn : 1 ≤ n) (l B1 B2 tb n₀ c : Nat) (A : Option Addr) (zs : List Int) (s : Int) (hlen : zs.length ≤ 1000) (J Jx : List Nat → World → Prop)
    (hY : ∀ pre x W, J pre W → pre.length < zs.length → YieldAt F (n - 1) Try.prog l (encs x) W fun e W' =>
      (e = .returned (.bool true) ∧ J (pre ++ [x]) W' ∧ Keep1 n₀ B2 W W') ∨ (e = .returned (.bool false) ∧ Jx (pre ++ [x]) W'))
    (W : World) (hB1 : W.cell? ⟨B1, 0, none⟩ = some (.pointer (some ⟨tb, 0, none⟩))) (hB2 : W.cell? ⟨B2, 0, none⟩ = some (.int .i64 s)) (htb : W.cell? ⟨tb, 4, none⟩ = some (.slice A zs.length c))
    (hA : IntsAt W A zs) (hAb : ∀ a, A = some a → a.block < n₀) (h0 : J [] W) :
    CallsIn F n Try.prog 100 #[.func (.yield l) #[] #[], .pointer (some ⟨B1, 0, none⟩), .pointer (some ⟨B2, 0, none⟩)] W fun e W' => (∃ v, e = .returned v) ∧
      ((∃ ys, ys = hold zs s ∧ J ys W') ∨ (∃ pre, True ∧ Jx pre W')) := by
  have HA := hid hA
  have HAB := hid hAb
  clear hA hAb
  refine callsIn_of_wp Try.func100 rfl h100 ?_ hro
  simp only [Try.ntmps100, List.size_toArray, List.length_cons, List.length_nil, Nat.reduceAdd, Nat.reduceSub, Array.replicate_succ, Array.replicate_zero, List.push_toArray, List.append_toArray, List.nil_append, List.cons_append]
  gi_wp2
  gi_loopw [11] (fun i wr => ∃ k : Nat, k ≤ zs.length ∧ i = .int .i64 k ∧ J (holdTo zs s k) wr ∧ Keep1 n₀ B2 W wr)
    (fun i _ => zs.length - (intOf i).toNat)
  case atStart => exact ⟨0, Nat.zero_le _, rfl, h0, ⟨Below.refl _ _, fun _ h => h⟩⟩
  case round =>
    obtain ⟨k, hk, rfl, hJs, hnx⟩ := hrel
    have hb2 := hnx.2 _ hB2
    by_cases hlt : k < zs.length
    · obtain ⟨b, off, rfl, hc⟩ := HA.out (by omega)
      have hcell := (hnx.1.cell (p := ⟨b, off + k, none⟩) (HAB.out ⟨b, off, none⟩ rfl)).trans (hc k hlt)
      clear hc
      have hzk : zs[k]? = some zs[k] := List.getElem?_eq_getElem hlt
      by_cases hs : zs[k] = s
      · have d0 : (zs[k] == s) = true := by simpa using hs
        have HZ : Hid (holdTo zs s (k + 1) = holdTo zs s k ++ [k]) := hid (holdTo_hit (by rw [hzk, hs]))
        clear hs hzk
        obtain ⟨fn, tmps, assign, body, hy, hR⟩ := hY _ k wr hJs (by have := holdTo_le zs s k; omega)
        unfold encs at hy
        gi_wp2
        refine hR.mono ?_
        rintro e W3 (⟨rfl, hJ3, hk3⟩ | ⟨rfl, hJx3⟩)
        · gi_wp2
          go_roundw
          case rel => exact ⟨k + 1, by omega, by simp, by rw [HZ.out]; exact hJ3, hnx.t hk3⟩
          case measure => simp [intOf]; omega
        · gi_wp2
          refine bodyPost_ret (results_none rfl _ _ _) rfl ?_
          exact ⟨⟨_, rfl⟩, .inr ⟨_, trivial, hJx3⟩⟩
      · have d0 : (zs[k] == s) = false := by simpa using hs
        have HZ : Hid (holdTo zs s (k + 1) = holdTo zs s k) := hid (holdTo_miss (by rw [hzk]; simpa using hs))
        clear hs hzk
        gi_wp2
        refine ⟨fun _ h => (by cases h), ?_⟩
        gi_wp2
        go_roundw
        case rel => exact ⟨k + 1, by omega, by simp, by rw [HZ.out]; exact hJs, hnx⟩
        case measure => simp [intOf]; omega
    · obtain rfl : k = zs.length := by omega
      gi_wp2
      go_end0
      exact ⟨⟨_, rfl⟩, .inl ⟨_, rfl, hJs⟩⟩

/-- The iterator's contract. -/
theorem at1_stops (F : Fence) (n : Nat) (h100 : F.fn 100) (hro : F.round = none) (hn : 1 ≤ n) (B1 B2 tb n₀ c : Nat) (A : Option Addr) (zs : List Int) (s : Int) (hlen : zs.length ≤ 1000) (w : World)
    (hB1 : w.cell? ⟨B1, 0, none⟩ = some (.pointer (some ⟨tb, 0, none⟩))) (hB2 : w.cell? ⟨B2, 0, none⟩ = some (.int .i64 s)) (htb : w.cell? ⟨tb, 4, none⟩ = some (.slice A zs.length c))
    (hA : IntsAt w A zs) (hAb : ∀ a, A = some a → a.block < n₀) :
    SeqStopsK F n Try.prog 100 #[.pointer (some ⟨B1, 0, none⟩), .pointer (some ⟨B2, 0, none⟩)] encs (Keep1 n₀ B2) (fun ys => ys = hold zs s) (fun _ => True) zs.length w := fun l J Jx W hW _ _ hY h0 => by
  have k := Kept.of_below hW
  exact at1_in F n h100 hro hn l B1 B2 tb n₀ c A zs s hlen J Jx hY W (k _ _ hB1) (k _ _ hB2) (k _ _ htb) (hA.kept k) hAb h0

set_option maxHeartbeats 2000000 in
theorem at_in (F : Fence) (n : Nat) (h90 : F.fn 90) (hro : F.round = none) (tv : Value) (s : Int) (w : World) (htv : ∃ a, tv = .pointer (some a)) :
    CallsIn F n Try.prog 90 #[tv, .int .i64 s] w fun e w' => e = .returned (.func (.func 100) #[] #[.pointer (some ⟨w.heap.size, 0, none⟩), .pointer (some ⟨w.heap.size + 1, 0, none⟩)]) ∧ w' = (w.alloc (.cells #[tv] 68)).alloc (.cells #[.int .i64 s] 3) := by
  obtain ⟨a, rfl⟩ := htv
  refine callsIn_of_wp Try.func90 rfl h90 ?_ hro
  simp only [Try.ntmps90, List.size_toArray, List.length_cons, List.length_nil, Nat.reduceAdd, Nat.reduceSub, Array.replicate_succ, Array.replicate_zero, List.push_toArray, List.append_toArray, List.nil_append, List.cons_append]
  gi_wp2
  go_ret
  exact ⟨rfl, rfl⟩

set_option maxRecDepth 100000 in
set_option maxHeartbeats 2000000 in
/-- (*trial).load: how many finds a slot was given to. -/
theorem load_in (F : Fence) (n : Nat) (h74 : F.fn 74) (h90 : F.fn 90) (h100 : F.fn 100) (hro : F.round = none) (hn : 3 ≤ n) (tb c : Nat) (A : Option Addr) (zs : List Int) (s : Int) (hlen : zs.length ≤ 1000) (w : World)
    (htb : w.cell? ⟨tb, 4, none⟩ = some (.slice A zs.length c)) (hA : IntsAt w A zs) (hAb : ∀ a, A = some a → a.block < w.heap.size) :
    CallsIn F n Try.prog 74 #[.pointer (some ⟨tb, 0, none⟩), .int .i64 s] w fun e W' => e = .returned (.int .i64 (hold zs s).length) ∧ Below w.heap.size w W' := by
  have h1 : 1 ≤ n := by omega
  have HA := hid hA
  have HAB := hid hAb
  clear hA hAb
  refine callsIn_of_wp_marks Try.func74 rfl h74 ?_ hro
  simp only [Try.ntmps74, List.size_toArray, List.length_cons, List.length_nil, Nat.reduceAdd, Nat.reduceSub, Array.replicate_succ, Array.replicate_zero, List.push_toArray, List.append_toArray, List.nil_append, List.cons_append]
  gi_wp2_with (gi_at_call 90; refine (at_in F (n - 1) h90 hro _ _ _ ⟨_, rfl⟩).mono ?_; rintro e w' ⟨rfl, rfl⟩)
  have hs := Boxed.new w 3 (.int .i64 0)
  have hs2 := (hs.alloc (.cells #[.pointer (some ⟨tb, 0, none⟩)] 68)).alloc (.cells #[.int .i64 s] 3)
  have hB0 : Below w.heap.size w (((w.alloc (.cells #[.int .i64 0] 3)).alloc (.cells #[.pointer (some ⟨tb, 0, none⟩)] 68)).alloc (.cells #[.int .i64 s] 3)) :=
    (((Below.refl _ w).alloc (Nat.le_refl _) _).alloc (by simp) _).alloc (by simp; omega) _
  have k0 := Kept.of_below hB0
  have b1 := (Boxed.new (w.alloc (.cells #[.int .i64 0] 3)) 68 (.pointer (some ⟨tb, 0, none⟩))).alloc (.cells #[.int .i64 s] 3)
  have b2 := Boxed.new ((w.alloc (.cells #[.int .i64 0] 3)).alloc (.cells #[.pointer (some ⟨tb, 0, none⟩)] 68)) 3 (.int .i64 s)
  simp only [World.size_alloc] at b1 b2
  refine wpIn_rangeFunc_ownF hro h1 (gf := 100) (lb := #[.pointer (some ⟨w.heap.size + 1, 0, none⟩), .pointer (some ⟨w.heap.size + 1 + 1, 0, none⟩)]) rfl h100 (enters_of Try.func100 (by kernel_rfl) rfl)
    (at1_stops F (n - 1) h100 hro (by omega) (w.heap.size + 1) (w.heap.size + 1 + 1) tb w.heap.size c A zs s hlen _ b1.cell b2.cell (k0 _ _ htb) (HA.out.kept k0) HAB.out) Keep1.t (Keep1.b (by simp; omega)) (Below.refl _ _) (fun _ => rfl)
    (fun pre W => Boxed W w.heap.size 3 (.int .i64 (pre.length : Int)) ∧ Below w.heap.size w W ∧ pre.length ≤ 1000)
    (fun _ _ _ => False)
    (fun t W W' row hs hg hr => ⟨hs.1.kept hg (fun e => by have := (hr _ e.symm).1; simp at this; omega), hs.2.1.grown hg hs.2.1.size (fun g e => by have := (hr _ e).1; simp at this; omega), hs.2.2⟩)
    (fun _ _ _ _ _ hs _ _ => hs)
    ⟨hs2, hB0, by simp⟩
    (fun x => { tmps := #[.pointer (some ⟨tb, 0, none⟩), .int .i64 s, undef, undef, .int .i64 0, .pointer (some ⟨w.heap.size, 0, none⟩), .pointer (some ⟨tb, 0, none⟩), .int .i64 s, .func (.func 100) #[] #[.pointer (some ⟨w.heap.size + 1, 0, none⟩), .pointer (some ⟨w.heap.size + 1 + 1, 0, none⟩)], .int .i64 x, undef, undef, undef], defers := [] }) ?assign ?body ?done ?stop
  case assign =>
    intro l x W K hK
    unfold encs
    gi_wp2
    simp
    exact hK
  case body =>
    rintro l pre x W ⟨hb, hB, hp⟩ hlt
    have hc := hb.cell
    have hf := hb.frozen
    gi_wp2
    refine ⟨KeepsOthers.setCell _ _ _, ⟨(Below.refl w.heap.size W).setCell (p := ⟨w.heap.size, 0, none⟩) (Nat.le_refl _) _, fun v hv => by rw [World.cell?_setCell_other _ _ _ _ (by simp)]; exact hv⟩, ?_, hB.setCell (p := ⟨w.heap.size, 0, none⟩) (Nat.le_refl _) _, by simp; omega⟩
    have := hb.set (.int .i64 ((pre ++ [x]).length : Int))
    simpa using this
  case done =>
    rintro D ys W hD rfl ⟨hb, hB, hp⟩ hK
    have hc := hb.cell
    gi_wp2
    refine ⟨by simp, .inl ⟨_, _, rfl, run_takeDeferred hK, ?_⟩⟩
    exact ⟨_, results_tmp rfl _ _ _, rfl, hB.trans (belowK_b (w := w) (Nat.le_refl _) W D _ _ (by simp at hD; omega) hK rfl rfl)⟩
  case stop =>
    rintro D c pre W _ _ h _
    exact h.elim
end Go.Proofs.Ytpmdjbjnihhjeaa
