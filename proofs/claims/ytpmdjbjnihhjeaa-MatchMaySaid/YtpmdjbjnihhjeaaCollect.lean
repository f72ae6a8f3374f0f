/- slices.AppendSeq and slices.Collect over the finds of a slot. -/
import Derived.RangeFuncWrites
import Derived.Test.YtpmdjbjnihhjeaaIter
namespace Go.Proofs.Ytpmdjbjnihhjeaa
open Go.RowKit Go.Shelf

attribute [local go_sem] Oper.semAt_some

def nats (l : List Nat) : List Int := l.map fun (x : Nat) => (x : Int)

theorem info3 : (Try.prog.info? 3).map (fun i => (i.zero, i.size, i.bytes)) = some (some (.int .i64 0), 1, 8) := by kernel_rfl

theorem Keep1.of_below {n₀ B : Nat} {W W' : World} (h : Below n₀ W W') (hB : ∀ v, W.cell? ⟨B, 0, none⟩ = some v → W'.cell? ⟨B, 0, none⟩ = some v) : Keep1 n₀ B W W' := ⟨h, hB⟩

set_option maxRecDepth 100000 in
set_option maxHeartbeats 2000000 in
theorem appendSeq_in (F : Fence) (n : Nat) (h99 : F.fn 99) (h100 : F.fn 100) (hro : F.round = none) (hn : 3 ≤ n) (B1 B2 tb c : Nat) (A : Option Addr) (zs : List Int) (s : Int) (hlen : zs.length ≤ 1000) (w : World)
    (hB1 : w.cell? ⟨B1, 0, none⟩ = some (.pointer (some ⟨tb, 0, none⟩))) (hB2 : w.cell? ⟨B2, 0, none⟩ = some (.int .i64 s)) (htb : w.cell? ⟨tb, 4, none⟩ = some (.slice A zs.length c)) (hA : IntsAt w A zs) (hAb : ∀ a, A = some a → a.block < w.heap.size) :
    CallsIn F n Try.prog 99 #[.slice none 0 0, .func (.func 100) #[] #[.pointer (some ⟨B1, 0, none⟩), .pointer (some ⟨B2, 0, none⟩)]] w fun e W' => ∃ v, e = .returned v ∧ W'.ownsRow w.heap.size 3 1 v (hold zs s).length (ints (nats (hold zs s))) ∧ Below w.heap.size w W' := by
  have h1 : 1 ≤ n := by omega
  obtain ⟨i0, hi, hz0, hz1, hz2⟩ := info_parts info3
  have HA := hid hA
  have HAB := hid hAb
  have lt2 := cell_lt hB2
  have HB1 := hid hB1
  have HB2 := hid hB2
  have HTB := hid htb
  clear hA hAb hB1 hB2 htb
  refine callsIn_of_wp_marks Try.func99 rfl h99 ?_ hro
  simp only [Try.ntmps99, List.size_toArray, List.length_cons, List.length_nil, Nat.reduceAdd, Nat.reduceSub, Array.replicate_succ, Array.replicate_zero, List.push_toArray, List.append_toArray, List.nil_append, List.cons_append]
  gi_wp2
  have bO := Boxed.new w 22 (.slice none 0 0)
  have hB0 : Below w.heap.size w (w.alloc (.cells #[.slice none 0 0] 22)) := (Below.refl _ w).alloc (Nat.le_refl _) _
  have k0 := Kept.of_below hB0
  refine wpIn_rangeFunc_ownG hro h1 (gf := 100) (lb := #[.pointer (some ⟨B1, 0, none⟩), .pointer (some ⟨B2, 0, none⟩)]) rfl h100 (enters_of Try.func100 (by kernel_rfl) rfl)
    (at1_stops F (n - 1) h100 hro (by omega) B1 B2 tb w.heap.size c A zs s hlen _ (k0 _ _ HB1.out) (k0 _ _ HB2.out) (k0 _ _ HTB.out) (HA.out.kept k0) HAB.out) Keep1.t (Keep1.b (by simp)) (Below.refl _ _) (fun _ => rfl)
    (fun pre W => (∃ v, Boxed W w.heap.size 22 v ∧ W.ownsRow w.heap.size 3 1 v pre.length (ints (nats pre)) ∧ True) ∧ Below w.heap.size w W)
    (fun _ _ _ => False)
    (OwnFrom.and (Own.from (holdsRow_own w.heap.size w.heap.size 22 3 1 (fun pre => pre.length) (fun pre => ints (nats pre)) (fun _ _ => True)) _) (ownFrom_below (Nat.le_refl _) (by simp)))
    (fun _ _ _ _ _ hs _ _ => hs)
    ⟨⟨_, bO, World.ownsRow_nil _ _ _ _, trivial⟩, hB0⟩
    (fun x => { tmps := #[.slice none 0 0, .func (.func 100) #[] #[.pointer (some ⟨B1, 0, none⟩), .pointer (some ⟨B2, 0, none⟩)], .pointer (some ⟨w.heap.size, 0, none⟩), undef, .slice none 0 0, .int .i64 x, .func (.func 100) #[] #[.pointer (some ⟨B1, 0, none⟩), .pointer (some ⟨B2, 0, none⟩)], .int .i64 x, undef, undef, undef, undef, undef], defers := [] }) ?assign ?body ?done ?stop
  case assign =>
    intro l x W K hK
    unfold encs
    gi_wp2
    exact hK
  case body =>
    rintro l pre x W ⟨⟨v, hv, hrow, _⟩, hB⟩ hlt
    have hc := hv.cell
    have hkx : ∀ u, W.cell? ⟨B2, 0, none⟩ = some u → True := fun _ _ => trivial
    gi_wp2_with (gi_at_builtin; refine wpListIn_append_own _ rfl _ _ 22 rfl w.heap.size 3 i0 (.int .i64 0) 1 8 intsl_u hi hz0 hz1 hz2 rfl (by decide) _ _ _ rfl (hrow.alloc _) ⟨W.heap.size, 0, none⟩ 1 1 [.int .i64 (x : Int)] rfl rfl (cell_one_new _ _ _) (by simp [Value.oneCell']) (by unfold maxLen; omega) (by omega) (by have := hB.size; simp; omega) ?_; intro v' w1 hown' hgrow _; obtain ⟨g', cap', rfl⟩ := ownsRow_succ hown'; obtain ⟨hv1, hv2, hr2, hk2, hb2⟩ := hv.appended (by decide) hrow hB.size (Nat.le_refl _) hown' hgrow; have hc1 := hv1.cell; have hf1 := hv1.frozen)
    refine ⟨hk2.from _, ⟨hb2, ?_⟩, ⟨_, hv2, by simpa [ints, nats] using hr2, trivial⟩, hB.trans hb2⟩
    intro u hu
    exact (hb2.cell (p := ⟨B2, 0, none⟩) lt2).trans hu
  case done =>
    rintro D ys W hD rfl ⟨⟨v, hv, hrow, _⟩, hB⟩ hK
    have hc := hv.cell
    gi_wp2
    refine ⟨by simp, .inl ⟨_, _, rfl, run_takeDeferred hK, ?_⟩⟩
    exact ⟨_, results_tmp rfl _ _ _, v, rfl, ownsRow_putObj hrow _ hK rfl, hB.trans (belowK_b (w := w) (Nat.le_refl _) W D _ _ (by simp at hD; omega) hK rfl rfl)⟩
  case stop =>
    rintro D c pre W _ _ h _
    exact h.elim

set_option maxHeartbeats 2000000 in
theorem collect_in (F : Fence) (n : Nat) (h89 : F.fn 89) (h99 : F.fn 99) (h100 : F.fn 100) (hro : F.round = none) (hn : 4 ≤ n) (B1 B2 tb c : Nat) (A : Option Addr) (zs : List Int) (s : Int) (hlen : zs.length ≤ 1000) (w : World)
    (hB1 : w.cell? ⟨B1, 0, none⟩ = some (.pointer (some ⟨tb, 0, none⟩))) (hB2 : w.cell? ⟨B2, 0, none⟩ = some (.int .i64 s)) (htb : w.cell? ⟨tb, 4, none⟩ = some (.slice A zs.length c)) (hA : IntsAt w A zs) (hAb : ∀ a, A = some a → a.block < w.heap.size) :
    CallsIn F n Try.prog 89 #[.func (.func 100) #[] #[.pointer (some ⟨B1, 0, none⟩), .pointer (some ⟨B2, 0, none⟩)]] w fun e W' => ∃ v, e = .returned v ∧ W'.ownsRow w.heap.size 3 1 v (hold zs s).length (ints (nats (hold zs s))) ∧ Below w.heap.size w W' := by
  have H := hid (appendSeq_in F (n - 1) h99 h100 hro (by omega) B1 B2 tb c A zs s hlen w hB1 hB2 htb hA hAb)
  clear hB1 hB2 htb hA hAb
  have h1 : 1 ≤ n := by omega
  refine callsIn_of_wp Try.func89 rfl h89 ?_ hro
  simp only [Try.ntmps89, List.size_toArray, List.length_cons, List.length_nil, Nat.reduceAdd, Nat.reduceSub, Array.replicate_succ, Array.replicate_zero, List.push_toArray, List.append_toArray, List.nil_append, List.cons_append]
  gi_wp2_with (gi_at_call 99; refine H.out.mono ?_; rintro e w' ⟨v, rfl, ho, hb⟩)
  go_ret
  exact ⟨v, rfl, ho, hb⟩

theorem intsAt_lt {w : World} {A : Option Addr} {xs : List Int} (hA : IntsAt w A xs) (h0 : 0 < xs.length) : ∀ a, A = some a → a.block < w.heap.size := by
  obtain ⟨b, off, rfl, hc⟩ := hA h0
  intro a ha
  cases ha
  exact cell_lt (hc 0 h0)

theorem load_any (tb c : Nat) (A : Option Addr) (zs : List Int) (s : Int) (hlen : zs.length ≤ 1000) (w : World) (htb : w.cell? ⟨tb, 4, none⟩ = some (.slice A zs.length c)) (hA : IntsAt w A zs) (hAb : ∀ a, A = some a → a.block < w.heap.size) :
    Calls Try.prog 74 #[.pointer (some ⟨tb, 0, none⟩), .int .i64 s] w fun e W' => e = .returned (.int .i64 (hold zs s).length) ∧ Below w.heap.size w W' :=
  (callsIn_wide (n := 9)).1 (load_in Fence.wide 9 trivial trivial trivial rfl (by omega) tb c A zs s hlen w htb hA hAb)

theorem at_any (tv : Value) (s : Int) (w : World) (htv : ∃ a, tv = .pointer (some a)) :
    Calls Try.prog 90 #[tv, .int .i64 s] w fun e w' => e = .returned (.func (.func 100) #[] #[.pointer (some ⟨w.heap.size, 0, none⟩), .pointer (some ⟨w.heap.size + 1, 0, none⟩)]) ∧ w' = (w.alloc (.cells #[tv] 68)).alloc (.cells #[.int .i64 s] 3) :=
  (callsIn_wide (n := 9)).1 (at_in Fence.wide 9 trivial rfl tv s w htv)

theorem collect_any (B1 B2 tb c : Nat) (A : Option Addr) (zs : List Int) (s : Int) (hlen : zs.length ≤ 1000) (w : World)
    (hB1 : w.cell? ⟨B1, 0, none⟩ = some (.pointer (some ⟨tb, 0, none⟩))) (hB2 : w.cell? ⟨B2, 0, none⟩ = some (.int .i64 s)) (htb : w.cell? ⟨tb, 4, none⟩ = some (.slice A zs.length c)) (hA : IntsAt w A zs) (hAb : ∀ a, A = some a → a.block < w.heap.size) :
    Calls Try.prog 89 #[.func (.func 100) #[] #[.pointer (some ⟨B1, 0, none⟩), .pointer (some ⟨B2, 0, none⟩)]] w fun e W' => ∃ v, e = .returned v ∧ W'.ownsRow w.heap.size 3 1 v (hold zs s).length (ints (nats (hold zs s))) ∧ Below w.heap.size w W' :=
  (callsIn_wide (n := 9)).1 (collect_in Fence.wide 9 trivial trivial trivial rfl (by omega) B1 B2 tb c A zs s hlen w hB1 hB2 htb hA hAb)

/-- t.at(s), worded for a caller that collects at once: the iterator, and the two boxes that it holds. -/
theorem at_box (tb : Nat) (s : Int) (w : World) :
    Calls Try.prog 90 #[.pointer (some ⟨tb, 0, none⟩), .int .i64 s] w fun e w' => ∃ B1 B2, e = .returned (.func (.func 100) #[] #[.pointer (some ⟨B1, 0, none⟩), .pointer (some ⟨B2, 0, none⟩)]) ∧ Below w.heap.size w w' ∧
      w'.cell? ⟨B1, 0, none⟩ = some (.pointer (some ⟨tb, 0, none⟩)) ∧ w'.cell? ⟨B2, 0, none⟩ = some (.int .i64 s) := by
  refine (at_any (.pointer (some ⟨tb, 0, none⟩)) s w ⟨_, rfl⟩).mono ?_
  rintro e w' ⟨rfl, rfl⟩
  have b1 := (Boxed.new w 68 (.pointer (some ⟨tb, 0, none⟩))).alloc (.cells #[.int .i64 s] 3)
  have b2 := Boxed.new (w.alloc (.cells #[.pointer (some ⟨tb, 0, none⟩)] 68)) 3 (.int .i64 s)
  simp only [World.size_alloc] at b2
  exact ⟨_, _, rfl, ((Below.refl _ w).alloc (Nat.le_refl _) _).alloc (by simp) _, b1.cell, b2.cell⟩
end Go.Proofs.Ytpmdjbjnihhjeaa
