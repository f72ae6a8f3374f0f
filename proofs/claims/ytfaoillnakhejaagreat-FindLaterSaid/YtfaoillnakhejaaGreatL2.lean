/- The flows (plain): the search ends, with a way or closed; balance, raise and sink end; The flows (plain): the greatest and the least amount of an arc, and that no balanced amounts go beyond a cut; The ends of a parcel exist: what the flows say of a beach (plain). -/
import Derived.Test.YtfaoillnakhejaaGreatL1
import Derived.Test.YtfaoillnakhejaaGreatH25
namespace Go.Proofs.YtfaoillnakhejaaGreat
set_option maxRecDepth 100000
open Go.RowKit
/-- What can be reached from a node by one arc is seen. -/
def Closed1 (L : List Arc) (x : List Int) (skip v : Int) (seen : Int → Bool) (i : Nat) : Prop :=
 (i : Int) ≠ skip → ((arcA L i).from_ = v → xA x i < (arcA L i).hi → seen (arcA L i).to_ = true) ∧ ((arcA L i).to_ = v → (arcA L i).lo < xA x i → seen (arcA L i).from_ = true)
/-- The search, between two nodes. -/
structure Sch (L : List Arc) (x : List Int) (start skip : Int) (want : Int → Bool) (N done : List Int) (s : PS) : Prop where
 is : Srch L x start skip N (done ++ s.row) s
 want : ∀ v ∈ done, want v = false
 closed : ∀ v ∈ done, ∀ i, i < L.length → Closed1 L x skip v s.seen i
theorem withP_mono {f : Int → Bool} {b v : Int} (h : f v = true) : withP f b v = true := by
 unfold withP
 split
 ·rfl
 ·exact h
theorem withP_self (f : Int → Bool) (b : Int) : withP f b b = true := by unfold withP; rw [if_pos rfl]
/-- What holds while a node's arcs are looked at. -/
structure Scn (L : List Arc) (x : List Int) (start skip : Int) (N pre : List Int) (v : Int) (s0 s : PS) : Prop where
 is : Srch L x start skip N (pre ++ s.row) s
 mono : ∀ u, s0.seen u = true → s.seen u = true
theorem fwd_ok {L : List Arc} {x : List Int} {start skip : Int} {N pre : List Int} {v : Int} {s0 s : PS} (h : Scn L x start skip N pre v s0 s) (hv : v ∈ pre) {i : Nat} (hi : i < L.length) (hs : (i : Int) ≠ skip) (hN : (arcA L i).to_ ∈ N) :
  Scn L x start skip N pre v s0 (fwd v (arcA L i) (xA x i) i s) ∧ (∀ u, s.seen u = true → (fwd v (arcA L i) (xA x i) i s).seen u = true) ∧ ((arcA L i).from_ = v → xA x i < (arcA L i).hi → (fwd v (arcA L i) (xA x i) i s).seen (arcA L i).to_ = true) := by
 unfold fwd
 by_cases hc : (arcA L i).from_ = v ∧ s.seen (arcA L i).to_ = false ∧ xA x i < (arcA L i).hi
 ·rw [if_pos hc]
  obtain ⟨h1, h2, h3⟩ := hc
  refine ⟨⟨?_, fun u hu => withP_mono (h.mono u hu)⟩, fun u hu => withP_mono hu, fun _ _ => withP_self _ _⟩
  have := h.is.add (st := (i, 1)) h2 hN ⟨hi, hs, .inl ⟨rfl, h3⟩⟩ (by exact if_pos Int.one_pos) (by rw [show tailS L (i, 1) = (arcA L i).from_ from if_pos Int.one_pos, h1]; exact List.mem_append_left _ hv) (s.row ++ [(arcA L i).to_])
  rwa [List.append_assoc] at this
 ·rw [if_neg hc]
  refine ⟨h, fun u hu => hu, fun h1 h2 => ?_⟩
  rcases hb : s.seen (arcA L i).to_ with _ | _
  ·exact absurd ⟨h1, hb, h2⟩ hc
  ·rfl
theorem bwd_ok {L : List Arc} {x : List Int} {start skip : Int} {N pre : List Int} {v : Int} {s0 s : PS} (h : Scn L x start skip N pre v s0 s) (hv : v ∈ pre) {i : Nat} (hi : i < L.length) (hs : (i : Int) ≠ skip) (hN : (arcA L i).from_ ∈ N) :
  Scn L x start skip N pre v s0 (bwd v (arcA L i) (xA x i) i s) ∧ (∀ u, s.seen u = true → (bwd v (arcA L i) (xA x i) i s).seen u = true) ∧ ((arcA L i).to_ = v → (arcA L i).lo < xA x i → (bwd v (arcA L i) (xA x i) i s).seen (arcA L i).from_ = true) := by
 unfold bwd
 by_cases hc : (arcA L i).to_ = v ∧ s.seen (arcA L i).from_ = false ∧ (arcA L i).lo < xA x i
 ·rw [if_pos hc]
  obtain ⟨h1, h2, h3⟩ := hc
  refine ⟨⟨?_, fun u hu => withP_mono (h.mono u hu)⟩, fun u hu => withP_mono hu, fun _ _ => withP_self _ _⟩
  have := h.is.add (st := (i, -1)) h2 hN ⟨hi, hs, .inr ⟨rfl, h3⟩⟩ (by exact if_neg (show ¬ (0 : Int) < -1 by decide)) (by rw [show tailS L (i, -1) = (arcA L i).to_ from if_neg (show ¬ (0 : Int) < -1 by decide), h1]; exact List.mem_append_left _ hv) (s.row ++ [(arcA L i).from_])
  rwa [List.append_assoc] at this
 ·rw [if_neg hc]
  refine ⟨h, fun u hu => hu, fun h1 h2 => ?_⟩
  rcases hb : s.seen (arcA L i).from_ with _ | _
  ·exact absurd ⟨h1, hb, h2⟩ hc
  ·rfl
/-- The ends of the arcs are nodes. -/
def Ends (L : List Arc) (N : List Int) : Prop := ∀ a ∈ L, a.from_ ∈ N ∧ a.to_ ∈ N
theorem scan_ok {L : List Arc} {x : List Int} (hx : x.length = L.length) {start skip : Int} {N pre : List Int} (hN : Ends L N) {v : Int} {s0 : PS} (hv : v ∈ pre) (h : Srch L x start skip N (pre ++ s0.row) s0) : ∀ k, k ≤ L.length →
  Scn L x start skip N pre v s0 (scanF L x v skip k s0) ∧ ∀ i, i < k → Closed1 L x skip v (scanF L x v skip k s0).seen i
 | 0, _ => ⟨⟨h, fun _ hu => hu⟩, fun i hi => by omega⟩
 | k + 1, hk => by
  obtain ⟨h1, h2⟩ := scan_ok hx hN hv h k (by omega)
  unfold scanF look1
  by_cases hs : (k : Int) = skip
  ·rw [if_pos hs]
   refine ⟨h1, fun i hi => ?_⟩
   by_cases e : i = k
   ·subst e
    exact fun hn => absurd hs hn
   ·exact h2 i (by omega)
  ·rw [if_neg hs, arc_at (by omega), x_at (by omega)]
   dsimp only
   have hend := hN _ (arc_mem (L := L) (i := k) (by omega))
   obtain ⟨f1, f2, f3⟩ := fwd_ok h1 hv (by omega) hs hend.2
   obtain ⟨b1, b2, b3⟩ := bwd_ok f1 hv (by omega) hs hend.1
   refine ⟨b1, fun i hi => ?_⟩
   by_cases e : i = k
   ·subst e
    exact fun _ => ⟨fun k1 k2 => b2 _ (f3 k1 k2), b3⟩
   ·intro hn
    obtain ⟨c1, c2⟩ := h2 i (by omega) hn
    exact ⟨fun k1 k2 => b2 _ (f2 _ (c1 k1 k2)), fun k1 k2 => b2 _ (f2 _ (c2 k1 k2))⟩
theorem nodup_sub {xs ys : List Int} (h : xs.Pairwise (· ≠ ·)) (hs : ∀ x ∈ xs, x ∈ ys) : xs.length ≤ ys.length := nodup_le h hs
/-- What the search finds. -/
def WayPost (L : List Arc) (x : List Int) (start : Int) (want : Int → Bool) (skip : Int) (N : List Int) : PathR → Prop
 | .way o last => want last = true ∧ WayP L start last o ∧ (o.map (·.1)).Pairwise (· ≠ ·) ∧ ∀ s ∈ o, StepOk L x skip s
 | .lost seen => seen start = true ∧ (∀ v, seen v = true → want v = false) ∧ (∀ v, seen v = true → v ∈ N) ∧ ∀ v, seen v = true → ∀ i, i < L.length → Closed1 L x skip v seen i
theorem pathF_ok {L : List Arc} {x : List Int} (hx : x.length = L.length) {start skip : Int} {want : Int → Bool} {N : List Int} (hN : Ends L N) (hl : N.length ≤ 300) : ∀ (n : Nat) (done : List Int) (s : PS), Sch L x start skip want N done s → N.length < n + done.length →
  ∃ r, pathF L x start want skip n s = some r ∧ WayPost L x start want skip N r
 | 0, done, s, h, hn => by
  have h1 := nodup_sub (List.pairwise_append.1 h.is.nodup).1 (fun v hv => h.is.sub v (List.mem_append_left _ hv))
  omega
 | n + 1, done, s, h, hn => by
  unfold pathF
  rcases hr : s.row with _ | ⟨v, rest⟩
  ·dsimp only
   refine ⟨_, rfl, (h.is.seen _).2 h.is.first, fun v hv => ?_, fun v hv => ?_, fun v hv => ?_⟩
   ·have := (h.is.seen v).1 hv
    rw [hr, List.append_nil] at this
    exact h.want v this
   ·exact h.is.sub v ((h.is.seen v).1 hv)
   ·have := (h.is.seen v).1 hv
    rw [hr, List.append_nil] at this
    exact h.closed v this
  ·dsimp only
   have his := h.is
   rw [hr] at his
   have hlen := nodup_sub his.nodup (fun v hv => his.sub v hv)
   simp only [List.length_append, List.length_cons] at hlen
   by_cases hw : want v = true
   ·rw [if_pos hw]
    obtain ⟨o, h1, h2, h3, h4⟩ := trace_ok his done.length done v rest (Nat.le_refl _) rfl 400 [] (by omega)
    rw [h1]
    exact ⟨_, rfl, hw, h2, h4, fun t ht => (h3 t ht).1⟩
   ·rw [if_neg hw, if_neg (by omega)]
    have h0 : Srch L x start skip N ((done ++ [v]) ++ rest) ⟨s.seen, s.by_, rest⟩ := by
     have := his.row rest
     rwa [show done ++ v :: rest = (done ++ [v]) ++ rest by simp] at this
    obtain ⟨h1, h2⟩ := scan_ok hx hN (v := v) (s0 := ⟨s.seen, s.by_, rest⟩) (pre := done ++ [v]) (by simp) h0 L.length (Nat.le_refl _)
    refine pathF_ok hx hN hl n (done ++ [v]) _ ⟨h1.is, fun u hu => ?_, fun u hu i hi => ?_⟩ (by simp only [List.length_append, List.length_singleton]; omega)
    ·rcases List.mem_append.1 hu with hu | hu
     ·exact h.want u hu
     ·rw [List.mem_singleton] at hu
      subst hu
      simpa using hw
    ·rcases List.mem_append.1 hu with hu | hu
     ·intro hne
      obtain ⟨c1, c2⟩ := h.closed u hu i hi hne
      exact ⟨fun k1 k2 => h1.mono _ (c1 k1 k2), fun k1 k2 => h1.mono _ (c2 k1 k2)⟩
     ·rw [List.mem_singleton] at hu
      subst hu
      exact h2 i hi
theorem path_ok {L : List Arc} {x : List Int} (hx : x.length = L.length) {start skip : Int} {want : Int → Bool} {N : List Int} (hN : Ends L N) (hl : N.length ≤ 300) (hs : start ∈ N) : ∃ r, pathOf L x start want skip = some r ∧ WayPost L x start want skip N r := by
 unfold pathOf
 refine pathF_ok hx hN hl 2000 [] _ ⟨⟨fun v => ?_, by simp, by simp, by simpa using hs, fun v hv hne => ?_⟩, by simp, by simp⟩ (by simp; omega)
 ·show withP (fun _ => false) start v = true ↔ _
  unfold withP
  by_cases e : v = start
  ·simp [e]
  ·simp [e]
 ·have : v = start := by simpa using hv
  exact absurd this hne
/-! ### Cuts -/
/-- How an arc counts at a set of nodes. -/
def cl (L : List Arc) (seen : Int → Bool) (i : Nat) : Int := (if seen (arcA L i).to_ then 1 else 0) - (if seen (arcA L i).from_ then 1 else 0)
def cut (L : List Arc) (x : List Int) (seen : Int → Bool) : Int := sumN (fun i => cl L seen i * xA x i) L.length
def sumL (f : Int → Int) : List Int → Int
 | [] => 0
 | v :: N => f v + sumL f N
theorem sumL_swap (f : Int → Nat → Int) (k : Nat) : ∀ N : List Int, sumL (fun v => sumN (f v) k) N = sumN (fun i => sumL (fun v => f v i) N) k
 | [] => (sumN_zero (fun _ _ => rfl)).symm
 | v :: N => by
  unfold sumL
  rw [sumL_swap f k N, sumN_add]
theorem sumL_mul (c : Int) (f : Int → Int) : ∀ N : List Int, sumL (fun v => f v * c) N = sumL f N * c
 | [] => by simp [sumL]
 | v :: N => by
  unfold sumL
  rw [sumL_mul c f N, Int.add_mul]
theorem sumL_one {seen : Int → Bool} {u : Int} : ∀ {N : List Int}, N.Pairwise (· ≠ ·) → sumL (fun v => if seen v then (if u = v then 1 else 0) else 0) N = if u ∈ N ∧ seen u = true then 1 else 0
 | [], _ => by simp [sumL]
 | v :: N, h => by
  unfold sumL
  rw [List.pairwise_cons] at h
  rw [sumL_one h.2]
  by_cases e : u = v
  ·subst e
   have : u ∉ N := fun hu => h.1 u hu rfl
   by_cases hs : seen u = true <;> simp [this, hs]
  ·by_cases hs : seen v = true <;> simp [e, hs]
theorem sumL_sub (f g : Int → Int) : ∀ N : List Int, sumL (fun v => f v - g v) N = sumL f N - sumL g N
 | [] => rfl
 | v :: N => by
  unfold sumL
  rw [sumL_sub f g N]
  omega
theorem sumL_congr {f g : Int → Int} : ∀ {N : List Int}, (∀ v ∈ N, f v = g v) → sumL f N = sumL g N
 | [], _ => rfl
 | v :: N, h => by
  unfold sumL
  rw [h v (by simp), sumL_congr (fun u hu => h u (by simp [hu]))]
theorem cut_sum {L : List Arc} {x : List Int} {N : List Int} (hN : Ends L N) (hn : N.Pairwise (· ≠ ·)) (seen : Int → Bool) : sumL (fun v => if seen v then exc L x v else 0) N = cut L x seen := by
 have h1 : ∀ v ∈ N, (if seen v then exc L x v else 0) = sumN (fun i => (if seen v then dl L v i else 0) * xA x i) L.length := fun v _ => by
  by_cases hs : seen v = true
  ·simp [hs, exc]
  ·simp [hs]
   exact (sumN_zero (fun _ _ => rfl)).symm
 rw [sumL_congr h1, sumL_swap]
 unfold cut
 refine sumN_congr fun i hi => ?_
 rw [sumL_mul]
 congr 1
 have h2 : ∀ v ∈ N, (if seen v then dl L v i else 0) = (if seen v then (if (arcA L i).to_ = v then 1 else 0) else 0) - (if seen v then (if (arcA L i).from_ = v then 1 else 0) else 0) := fun v _ => by
  unfold dl
  by_cases hs : seen v = true <;> simp [hs]
 rw [sumL_congr h2, sumL_sub, sumL_one hn, sumL_one hn]
 obtain ⟨e1, e2⟩ := hN _ (arc_mem hi)
 unfold cl
 simp [e1, e2]
theorem sumL_nonneg {f : Int → Int} : ∀ {N : List Int}, (∀ v ∈ N, 0 ≤ f v) → 0 ≤ sumL f N
 | [], _ => Int.le_refl _
 | v :: N, h => by
  unfold sumL
  have h1 := h v (by simp)
  have h2 := sumL_nonneg (N := N) (fun u hu => h u (by simp [hu]))
  omega
theorem sumL_pos {f : Int → Int} {u : Int} : ∀ {N : List Int}, (∀ v ∈ N, 0 ≤ f v) → u ∈ N → 0 < f u → 0 < sumL f N
 | [], _, h, _ => by simp at h
 | v :: N, h, hu, hp => by
  unfold sumL
  have h1 := h v (by simp)
  have h2 := sumL_nonneg (N := N) (fun u hu => h u (by simp [hu]))
  rcases List.mem_cons.1 hu with rfl | hu
  ·omega
  ·have := sumL_pos (fun u hu => h u (by simp [hu])) hu hp
   omega
theorem sumL_zero_all {f : Int → Int} : ∀ {N : List Int}, (∀ v ∈ N, f v ≤ 0) → sumL f N = 0 → ∀ v ∈ N, f v = 0
 | [], _, _ => by simp
 | v :: N, h, hs => by
  unfold sumL at hs
  have h1 := h v (by simp)
  have key : ∀ M : List Int, (∀ v ∈ M, f v ≤ 0) → sumL f M ≤ 0 := by
   intro M
   induction M with
   | nil => exact fun _ => Int.le_refl _
   | cons a M ih =>
    intro hM
    unfold sumL
    have := hM a (by simp)
    have := ih (fun v hv => hM v (by simp [hv]))
    omega
  have h2 := key N (fun u hu => h u (by simp [hu]))
  intro u hu
  rcases List.mem_cons.1 hu with rfl | hu
  ·omega
  ·exact sumL_zero_all (fun u hu => h u (by simp [hu])) (by omega) u hu
/-- The bounds at a set of nodes: the least that enters, less the most that leaves, but for one arc. -/
def low1 (L : List Arc) (seen : Int → Bool) (i : Nat) : Int := if seen (arcA L i).to_ && !seen (arcA L i).from_ then (arcA L i).lo else if seen (arcA L i).from_ && !seen (arcA L i).to_ then -(arcA L i).hi else 0
def lowS (L : List Arc) (seen : Int → Bool) (skip : Int) : Int := sumN (fun i => if (i : Int) = skip then 0 else low1 L seen i) L.length
theorem closed_arc {L : List Arc} {x : List Int} (hw : Within L x) {skip : Int} {seen : Int → Bool} (hc : ∀ v, seen v = true → ∀ i, i < L.length → Closed1 L x skip v seen i) {i : Nat} (hi : i < L.length) (hs : (i : Int) ≠ skip) : cl L seen i * xA x i = low1 L seen i := by
 have hwi := hw i hi
 unfold cl low1
 rcases h1 : seen (arcA L i).to_ with _ | _ <;> rcases h2 : seen (arcA L i).from_ with _ | _ <;> simp
 ·have := (hc _ h2 i hi hs).1 rfl
  rw [h1] at this
  by_cases h3 : xA x i < (arcA L i).hi
  ·have := this h3
   cases this
  ·omega
 ·have := (hc _ h1 i hi hs).2 rfl
  rw [h2] at this
  by_cases h3 : (arcA L i).lo < xA x i
  ·have := this h3
   cases this
  ·omega
/-- The cut of a closed set of nodes. -/
theorem cut_closed {L : List Arc} {x : List Int} (hw : Within L x) {skip : Int} {seen : Int → Bool} (hc : ∀ v, seen v = true → ∀ i, i < L.length → Closed1 L x skip v seen i) : cut L x seen = lowS L seen skip + sumN (fun i => if (i : Int) = skip then cl L seen i * xA x i else 0) L.length := by
 unfold cut lowS
 rw [← sumN_add]
 refine sumN_congr fun i hi => ?_
 by_cases hs : (i : Int) = skip
 ·simp [hs]
 ·rw [if_neg hs, if_neg hs, closed_arc hw hc hi hs]
  omega
theorem sumN_only {f : Nat → Int} {j : Nat} : ∀ {k : Nat}, j < k → sumN (fun i => if (i : Int) = j then f i else 0) k = f j
 | 0, h => by omega
 | k + 1, h => by
  unfold sumN
  by_cases e : k = j
  ·subst e
   rw [if_pos rfl, sumN_zero (fun i hi => if_neg (by omega))]
   omega
  ·rw [if_neg (by omega), sumN_only (by omega)]
   omega
/-! ### What comes too much is led away -/
/-- The amounts, with what comes too much to each node. -/
structure Amt (L : List Arc) (x : List Int) (m : Much) : Prop where
 len : x.length = L.length
 within : Within L x
 much : ∀ v, mAt m v = exc L x v
theorem mAt_set (m : Much) (v a w : Int) : mAt (setAt m v a) w = if w = v then a else mAt m w := by
 unfold mAt setAt
 by_cases h : w = v <;> simp [h]
def DrainPost (L : List Arc) (m : Much) (v : Int) : Except (Int → Bool) (List Int × Much) → Prop
 | .error seen => 0 < lowS L seen (-1)
 | .ok (y, m') => Amt L y m' ∧ mAt m' v ≤ 0 ∧ ∀ w, mAt m w ≤ 0 → mAt m' w ≤ 0
theorem drain_ok {L : List Arc} (hb : Bd L) (hl : L.length ≤ 2000) {N : List Int} (hN : Ends L N) (hn : N.Pairwise (· ≠ ·)) (hnl : N.length ≤ 300) {v : Int} (hv : v ∈ N) (n : Nat) : ∀ (x : List Int) (m : Much), Amt L x m → mAt m v ≤ n →
  ∃ r, drainF L v (n + 1) x m = some r ∧ DrainPost L m v r := by
 induction n with
 | zero =>
  intro x m h hlt
  unfold drainF
  rw [if_neg (by omega)]
  exact ⟨_, rfl, h, by omega, fun _ h => h⟩
 | succ n ih =>
  intro x m h hlt
  unfold drainF
  by_cases hp : 0 < mAt m v
  ·rw [if_pos hp]
   obtain ⟨r, h1, h2⟩ := path_ok (start := v) (skip := -1) (want := fun w => decide (mAt m w < 0)) h.len hN hnl hv
   rw [h1]
   rcases r with ⟨o, last⟩ | seen
   ·dsimp only
    obtain ⟨p1, p2, p3, p4⟩ := h2
    have p1 := of_decide_eq_true p1
    have hne : last ≠ v := fun e => by rw [e] at p1; omega
    obtain ⟨q, q1, q2, q3, q4⟩ := room_ok h.len p4 (min (mAt m v) (-mAt m last))
    have hq1 := q4 (by omega)
    rw [q1]
    dsimp only
    have hev := exc_small hb h.within hl v
    have hel := exc_small hb h.within hl last
    rw [← h.much] at hev hel
    rw [if_pos ⟨okN_of (by omega), okN_of (by omega), okN_of (by omega)⟩]
    obtain ⟨y, y1, y2, y3, y4, _⟩ := lead_ok hb (n := q) (by omega) h.len h.within p4 q3 p3 p2
    rw [y1]
    dsimp only
    have hms : mAt (setAt m v (mAt m v - q)) last = mAt m last := by rw [mAt_set, if_neg hne]
    rw [hms, if_pos ⟨okN_of (by omega), okN_of (by omega)⟩]
    have hA : Amt L y (setAt (setAt m v (mAt m v - q)) last (mAt m last + q)) := ⟨y2, y3, fun w => by
     rw [y4 w, mAt_set, mAt_set, ← h.much w]
     by_cases e1 : w = last
     ·have e2 : ¬ v = w := fun e => hne (by omega)
      rw [if_pos e1, if_pos e1.symm, if_neg e2, e1]
      omega
     ·have e3 : ¬ last = w := fun e => e1 e.symm
      by_cases e2 : w = v
      ·have e4 : v = w := e2.symm
       rw [if_neg e1, if_neg e3, if_pos e2, if_pos e4, e2]
       omega
      ·have e4 : ¬ v = w := fun e => e2 e.symm
       rw [if_neg e1, if_neg e3, if_neg e2, if_neg e4]
       omega⟩
    have hmv : mAt (setAt (setAt m v (mAt m v - q)) last (mAt m last + q)) v = mAt m v - q := by rw [mAt_set, if_neg (fun e => hne e.symm), mAt_set, if_pos rfl]
    obtain ⟨r, r1, r2⟩ := ih y _ hA (by rw [hmv]; omega)
    refine ⟨r, r1, ?_⟩
    rcases r with seen | ⟨z, m'⟩
    ·exact r2
    ·obtain ⟨k1, k2, k3⟩ := r2
     refine ⟨k1, k2, fun w hw => k3 w ?_⟩
     rw [mAt_set, mAt_set]
     by_cases e1 : w = last
     ·rw [if_pos e1]; omega
     ·rw [if_neg e1]
      by_cases e2 : w = v
      ·rw [e2] at hw; omega
      ·rw [if_neg e2]; exact hw
   ·obtain ⟨p1, p2, p3, p4⟩ := h2
    refine ⟨_, rfl, ?_⟩
    have hcut := cut_sum (x := x) hN hn seen
    rw [cut_closed h.within p4, sumN_zero (fun i _ => if_neg (by omega))] at hcut
    have : 0 < sumL (fun v => if seen v then exc L x v else 0) N := sumL_pos (u := v) (fun w hw => by
     by_cases hs : seen w = true
     ·have := of_decide_eq_false (p2 w hs)
      simp only [hs, if_true, ← h.much]
      omega
     ·simp [hs]) hv (by simp only [p1, if_true, ← h.much]; exact hp)
    show 0 < lowS L seen (-1)
    omega
  ·rw [if_neg hp]
   exact ⟨_, rfl, h, by omega, fun _ h => h⟩
def DrainsPost (L : List Arc) (vs : List Int) (m : Much) : Except (Int → Bool) (List Int × Much) → Prop
 | .error seen => 0 < lowS L seen (-1)
 | .ok (y, m') => Amt L y m' ∧ (∀ v ∈ vs, mAt m' v ≤ 0) ∧ ∀ w, mAt m w ≤ 0 → mAt m' w ≤ 0
theorem drains_ok {L : List Arc} (hb : Bd L) (hl : L.length ≤ 2000) {N : List Int} (hN : Ends L N) (hn : N.Pairwise (· ≠ ·)) (hnl : N.length ≤ 300) : ∀ (vs : List Int) (x : List Int) (m : Much), (∀ v ∈ vs, v ∈ N) → Amt L x m →
  ∃ r, drainsF L vs x m = some r ∧ DrainsPost L vs m r
 | [], x, m, _, h => ⟨_, rfl, h, by simp, fun _ h => h⟩
 | v :: vs, x, m, hs, h => by
  unfold drainsF
  have hev := exc_small hb h.within hl v
  rw [← h.much] at hev
  obtain ⟨r, r1, r2⟩ := drain_ok hb hl hN hn hnl (hs v (by simp)) (drainN - 1) x m h (by unfold drainN; omega)
  rw [show drainN = drainN - 1 + 1 from rfl, r1]
  rcases r with seen | ⟨y, m'⟩
  ·exact ⟨_, rfl, r2⟩
  ·obtain ⟨k1, k2, k3⟩ := r2
   dsimp only
   obtain ⟨r, e1, e2⟩ := drains_ok hb hl hN hn hnl vs y m' (fun u hu => hs u (by simp [hu])) k1
   refine ⟨r, e1, ?_⟩
   rcases r with seen | ⟨z, m2⟩
   ·exact e2
   ·obtain ⟨j1, j2, j3⟩ := e2
    refine ⟨j1, fun u hu => ?_, fun u hu => j3 u (k3 u hu)⟩
    rcases List.mem_cons.1 hu with rfl | hu
    ·exact j3 _ k2
    ·exact j2 u hu
/-- The beginning: each arc has its least amount. -/
def part (L : List Arc) (k : Nat) (v : Int) : Int := sumN (fun i => dl L v i * (arcA L i).lo) k
theorem part_small {L : List Arc} (hb : Bd L) (hl : L.length ≤ 2000) {k : Nat} (hk : k ≤ L.length) (v : Int) : -200000000000 ≤ part L k v ∧ part L k v ≤ 200000000000 := by
 have h : -((k : Int) * 100000000) ≤ part L k v ∧ part L k v ≤ k * 100000000 := sumN_bound (fun i hi => by
  have h2 := hb _ (arc_mem (L := L) (i := i) (by omega))
  unfold dl
  by_cases h3 : (arcA L i).to_ = v <;> by_cases h4 : (arcA L i).from_ = v <;> simp [h3, h4] <;> omega)
 omega
theorem start_ok {L : List Arc} (hb : Bd L) (hl : L.length ≤ 2000) : ∀ k, k ≤ L.length → ∃ x m, startF L k = some (x, m) ∧ x.length = L.length ∧ (∀ i, i < k → xA x i = (arcA L i).lo) ∧ ∀ v, mAt m v = part L k v
 | 0, _ => ⟨_, _, rfl, by simp, fun i hi => by omega, fun v => rfl⟩
 | k + 1, hk => by
  obtain ⟨x, m, h1, h2, h3, h4⟩ := start_ok hb hl k (by omega)
  unfold startF
  rw [h1, arc_at (L := L) (i := k) (by omega)]
  dsimp only
  have hbk := hb _ (arc_mem (L := L) (i := k) (by omega))
  have ht := part_small hb hl (k := k) (by omega) (arcA L k).to_
  have hf := part_small hb hl (k := k) (by omega) (arcA L k).from_
  rw [← h4] at ht hf
  have hmf : mAt (setAt m (arcA L k).to_ (mAt m (arcA L k).to_ + (arcA L k).lo)) (arcA L k).from_ = if (arcA L k).from_ = (arcA L k).to_ then mAt m (arcA L k).to_ + (arcA L k).lo else mAt m (arcA L k).from_ := mAt_set _ _ _ _
  rw [if_pos ⟨okN_of (by omega), okN_of (by rw [hmf]; split <;> omega)⟩]
  refine ⟨_, _, rfl, by rw [List.length_set]; exact h2, fun i hi => ?_, fun v => ?_⟩
  ·rw [xA_set (by omega)]
   by_cases e : i = k
   ·rw [if_pos e, e]
   ·rw [if_neg e]
    exact h3 i (by omega)
  ·rw [mAt_set, hmf, mAt_set]
   unfold part sumN
   have h5 : ∀ u, mAt m u = sumN (fun i => dl L u i * (arcA L i).lo) k := h4
   rw [← h5 v]
   unfold dl
   by_cases e1 : (arcA L k).to_ = v <;> by_cases e2 : (arcA L k).from_ = v
   ·rw [if_pos e2.symm, if_pos (by omega), if_pos e1, if_pos e2, e1]
    omega
   ·rw [if_neg (fun h => e2 h.symm), if_pos e1.symm, if_pos e1, if_neg e2, e1]
    omega
   ·rw [if_pos e2.symm, if_neg (by omega), if_neg e1, if_pos e2, e2]
    omega
   ·rw [if_neg (fun h => e2 h.symm), if_neg (fun h => e1 h.symm), if_neg e1, if_neg e2]
    omega
/-- Balanced amounts. -/
structure Even (L : List Arc) (x : List Int) : Prop where
 len : x.length = L.length
 within : Within L x
 zero : ∀ v, exc L x v = 0
def BalOk (L : List Arc) : BalR → Prop
 | .parcel p => ∃ a ∈ L, a.parcel = p ∧ a.hi < a.lo
 | .side seen => 0 < lowS L seen (-1)
 | .even x => Even L x
theorem exc_out {L : List Arc} {N : List Int} (hN : Ends L N) (x : List Int) {v : Int} (hv : v ∉ N) : exc L x v = 0 := by
 unfold exc
 refine sumN_zero fun i hi => ?_
 obtain ⟨h1, h2⟩ := hN _ (arc_mem hi)
 have e1 : ¬ (arcA L i).to_ = v := fun e => hv (by rw [← e]; exact h2)
 have e2 : ¬ (arcA L i).from_ = v := fun e => hv (by rw [← e]; exact h1)
 unfold dl
 rw [if_neg e1, if_neg e2]
 simp
theorem bal_ok {L : List Arc} (hb : Bd L) (hl : L.length ≤ 2000) {N : List Int} (hN : Ends L N) (hn : N.Pairwise (· ≠ ·)) (hnl : N.length ≤ 300) : ∃ r, balF L N = some r ∧ BalOk L r := by
 unfold balF
 obtain ⟨x, m, h1, h2, h3, h4⟩ := start_ok hb hl (L.findIdx badB) List.findIdx_le_length
 rw [h1]
 dsimp only
 rcases ha : L[L.findIdx badB]? with _ | a
 ·dsimp only
  have hlen : L.findIdx badB = L.length := by
   have := List.getElem?_eq_none_iff.1 ha
   have := List.findIdx_le_length (p := badB) (xs := L)
   omega
  rw [hlen] at h3 h4
  have hgood : ∀ i, i < L.length → (arcA L i).lo ≤ (arcA L i).hi := fun i hi => by
   have := List.findIdx_eq_length.1 hlen _ (arc_mem hi)
   unfold badB at this
   have := of_decide_eq_false this
   omega
  have hA : Amt L x m := ⟨h2, fun i hi => by rw [h3 i hi]; exact ⟨Int.le_refl _, hgood i hi⟩, fun v => by
   rw [h4 v]
   unfold part exc
   exact sumN_congr fun i hi => by rw [h3 i hi]⟩
  obtain ⟨r, e1, e2⟩ := drains_ok hb hl hN hn hnl N x m (fun _ h => h) hA
  rw [e1]
  rcases r with seen | ⟨y, m'⟩
  ·exact ⟨_, rfl, e2⟩
  ·obtain ⟨k1, k2, _⟩ := e2
   refine ⟨_, rfl, k1.len, k1.within, fun v => ?_⟩
   by_cases hv : v ∈ N
   ·have hs := cut_sum (x := y) hN hn (fun _ => true)
    have hc : cut L y (fun _ => true) = 0 := sumN_zero fun i _ => by unfold cl; simp
    rw [hc] at hs
    have hs2 : sumL (fun v => exc L y v) N = 0 := by
     rw [← hs]
     exact sumL_congr fun v _ => by simp
    exact sumL_zero_all (fun u hu => by have := k2 u hu; rw [k1.much] at this; exact this) hs2 v hv
   ·exact exc_out hN y hv
 ·dsimp only
  have hm := List.mem_of_getElem? ha
  obtain ⟨hlt, hg⟩ := List.getElem?_eq_some_iff.1 ha
  have := List.findIdx_getElem (w := hlt)
  rw [hg] at this
  unfold badB at this
  exact ⟨_, rfl, a, hm, rfl, of_decide_eq_true this⟩
/-! ### No balanced amounts go beyond a cut -/
theorem low_le {L : List Arc} {x : List Int} (hw : Within L x) (seen : Int → Bool) {i : Nat} (hi : i < L.length) : low1 L seen i ≤ cl L seen i * xA x i := by
 have hwi := hw i hi
 unfold low1 cl
 rcases h1 : seen (arcA L i).to_ with _ | _ <;> rcases h2 : seen (arcA L i).from_ with _ | _ <;> simp <;> omega
theorem cut_zero {L : List Arc} {x : List Int} {N : List Int} (hN : Ends L N) (hn : N.Pairwise (· ≠ ·)) (h : Even L x) (seen : Int → Bool) : cut L x seen = 0 := by
 rw [← cut_sum hN hn seen, sumL_congr (g := fun _ => 0) (fun v _ => by rw [h.zero v]; simp)]
 have : ∀ M : List Int, sumL (fun _ => 0) M = 0 := by
  intro M
  induction M with
  | nil => rfl
  | cons a M ih => unfold sumL; rw [ih]; rfl
 exact this N
/-- A cut with less room than none: there are no balanced amounts. -/
theorem no_even {L : List Arc} {N : List Int} (hN : Ends L N) (hn : N.Pairwise (· ≠ ·)) {seen : Int → Bool} (hc : 0 < lowS L seen (-1)) (x : List Int) : ¬ Even L x := fun h => by
 have h1 := cut_zero hN hn h seen
 have h2 : lowS L seen (-1) ≤ cut L x seen := sumN_le fun i hi => by
  rw [if_neg (by omega)]
  exact low_le h.within seen hi
 omega
theorem cut_one {L : List Arc} {x : List Int} (h : Within L x) {i : Nat} (hi : i < L.length) (seen : Int → Bool) : lowS L seen i + cl L seen i * xA x i ≤ cut L x seen := by
 have h1 : sumN (fun j => (if (j : Int) = i then 0 else low1 L seen j) + (if (j : Int) = i then cl L seen j * xA x j else 0)) L.length ≤ cut L x seen := sumN_le fun j hj => by
  by_cases e : (j : Int) = i
  ·rw [if_pos e, if_pos e]
   omega
  ·rw [if_neg e, if_neg e]
   have := low_le h seen hj
   omega
 rw [sumN_add, sumN_only (f := fun j => cl L seen j * xA x j) hi] at h1
 exact h1
/-- What a cut that an arc enters says of its greatest amount. -/
theorem up_most {L : List Arc} {N : List Int} (hN : Ends L N) (hn : N.Pairwise (· ≠ ·)) {seen : Int → Bool} {i : Nat} (hi : i < L.length) (ht : seen (arcA L i).to_ = true) (hf : seen (arcA L i).from_ = false) {x : List Int} (h : Even L x) : xA x i ≤ -lowS L seen i := by
 have h1 := cut_one h.within hi seen
 rw [cut_zero hN hn h seen] at h1
 unfold cl at h1
 rw [ht, hf] at h1
 simp at h1
 omega
theorem down_least {L : List Arc} {N : List Int} (hN : Ends L N) (hn : N.Pairwise (· ≠ ·)) {seen : Int → Bool} {i : Nat} (hi : i < L.length) (ht : seen (arcA L i).to_ = false) (hf : seen (arcA L i).from_ = true) {x : List Int} (h : Even L x) : lowS L seen i ≤ xA x i := by
 have h1 := cut_one h.within hi seen
 rw [cut_zero hN hn h seen] at h1
 unfold cl at h1
 rw [ht, hf] at h1
 simp at h1
 omega
/-! ### The greatest and the least amount -/
def DrivePost (L : List Arc) (i : Nat) (up : Bool) (y : List Int) : Option (Int → Bool) → Prop
 | none => xA y i = if up then (arcA L i).hi else (arcA L i).lo
 | some seen => if up then seen (arcA L i).to_ = true ∧ seen (arcA L i).from_ = false ∧ xA y i = -lowS L seen i else seen (arcA L i).to_ = false ∧ seen (arcA L i).from_ = true ∧ xA y i = lowS L seen i
theorem even_shift {L : List Arc} {x y : List Int} (h : Even L x) (hy : y.length = L.length) {i : Nat} (hi : i < L.length) {q d : Int} {a b : Int} (hw : Within L y)
  (he : ∀ v, exc L y v = exc L x v + q * ((if a = v then 1 else 0) - (if b = v then 1 else 0))) (hxy : (arcA L i).lo ≤ xA y i + d ∧ xA y i + d ≤ (arcA L i).hi)
  (hd : ∀ v, dl L v i * d = -(q * ((if a = v then 1 else 0) - (if b = v then 1 else 0)))) : Even L (y.set i (xA y i + d)) := by
 refine ⟨by rw [List.length_set]; exact hy, fun j hj => ?_, fun v => ?_⟩
 ·rw [xA_set (by omega)]
  by_cases e : j = i
  ·rw [if_pos e, e]
   exact hxy
  ·rw [if_neg e]
   exact hw j hj
 ·rw [exc_set hi hy, he v, h.zero v, hd v]
  omega
theorem drive_up {L : List Arc} (hb : Bd L) {N : List Int} (hN : Ends L N) (hn : N.Pairwise (· ≠ ·)) (hnl : N.length ≤ 300) {i : Nat} (hi : i < L.length) (n : Nat) : ∀ x : List Int, Even L x → (arcA L i).hi - xA x i ≤ n →
  ∃ y sn, driveF L i (arcA L i) true (n + 1) x = some (y, sn) ∧ Even L y ∧ DrivePost L i true y sn := by
 have hend := hN _ (arc_mem hi)
 have hbi := hb _ (arc_mem hi)
 induction n with
 | zero =>
  intro x h hlt
  have hwi := h.within i hi
  have hlen := h.len
  unfold driveF
  rw [x_at (by omega)]
  simp only [if_true]
  rw [if_neg (by omega)]
  exact ⟨_, _, rfl, h, by show xA x i = _; rw [if_pos rfl]; omega⟩
 | succ n ih =>
  intro x h hlt
  have hwi := h.within i hi
  have hlen := h.len
  unfold driveF
  rw [x_at (by omega)]
  simp only [if_true]
  by_cases hp : xA x i < (arcA L i).hi
  ·rw [if_pos hp]
   obtain ⟨r, h1, h2⟩ := path_ok (start := (arcA L i).to_) (skip := i) (want := fun v => v == (arcA L i).from_) h.len hN hnl hend.2
   rw [h1]
   rcases r with ⟨o, last⟩ | seen
   ·dsimp only
    obtain ⟨p1, p2, p3, p4⟩ := h2
    have p1 : last = (arcA L i).from_ := by simpa using p1
    obtain ⟨q, q1, q2, q3, q4⟩ := room_ok h.len p4 ((arcA L i).hi - xA x i)
    have hq1 := q4 (by omega)
    obtain ⟨y, y1, y2, y3, y4, y5⟩ := lead_ok hb (n := q) (by omega) h.len h.within p4 q3 p3 p2
    have hyi : xA y i = xA x i := y5 i (fun hm => by
     obtain ⟨s, hs, he⟩ := List.mem_map.1 hm
     exact (p4 s hs).skip (by rw [he]))
    rw [q1]
    dsimp only
    rw [if_pos (okN_of (by omega)), y1]
    dsimp only
    rw [x_at (by omega)]
    dsimp only
    rw [if_pos (okN_of (by omega))]
    have hE : Even L (y.set i (xA y i + q)) := even_shift h y2 hi y3 y4 (by omega) (fun v => by
     unfold dl
     rw [p1]
     by_cases e1 : (arcA L i).to_ = v <;> by_cases e2 : (arcA L i).from_ = v <;> simp [e1, e2])
    exact ih _ hE (by rw [xA_set (by omega), if_pos rfl]; omega)
   ·obtain ⟨p1, p2, p3, p4⟩ := h2
    have hf : seen (arcA L i).from_ = false := by
     rcases hs : seen (arcA L i).from_ with _ | _
     ·rfl
     ·have := p2 _ hs
      simp at this
    refine ⟨_, _, rfl, h, ?_⟩
    unfold DrivePost
    rw [if_pos rfl]
    refine ⟨p1, hf, ?_⟩
    have h3 := cut_closed h.within p4
    rw [cut_zero hN hn h seen, sumN_only (f := fun j => cl L seen j * xA x j) hi] at h3
    have : cl L seen i = 1 := by unfold cl; rw [p1, hf]; rfl
    rw [this] at h3
    omega
  ·rw [if_neg hp]
   exact ⟨_, _, rfl, h, by show xA x i = _; rw [if_pos rfl]; omega⟩
theorem drive_down {L : List Arc} (hb : Bd L) {N : List Int} (hN : Ends L N) (hn : N.Pairwise (· ≠ ·)) (hnl : N.length ≤ 300) {i : Nat} (hi : i < L.length) (n : Nat) : ∀ x : List Int, Even L x → xA x i - (arcA L i).lo ≤ n →
  ∃ y sn, driveF L i (arcA L i) false (n + 1) x = some (y, sn) ∧ Even L y ∧ DrivePost L i false y sn := by
 have hend := hN _ (arc_mem hi)
 have hbi := hb _ (arc_mem hi)
 induction n with
 | zero =>
  intro x h hlt
  have hwi := h.within i hi
  have hlen := h.len
  unfold driveF
  rw [x_at (by omega)]
  simp only [Bool.false_eq_true, if_false]
  rw [if_neg (by omega)]
  exact ⟨_, _, rfl, h, by show xA x i = _; rw [if_neg (by decide)]; omega⟩
 | succ n ih =>
  intro x h hlt
  have hwi := h.within i hi
  have hlen := h.len
  unfold driveF
  rw [x_at (by omega)]
  simp only [Bool.false_eq_true, if_false]
  by_cases hp : (arcA L i).lo < xA x i
  ·rw [if_pos hp]
   obtain ⟨r, h1, h2⟩ := path_ok (start := (arcA L i).from_) (skip := i) (want := fun v => v == (arcA L i).to_) h.len hN hnl hend.1
   rw [h1]
   rcases r with ⟨o, last⟩ | seen
   ·dsimp only
    obtain ⟨p1, p2, p3, p4⟩ := h2
    have p1 : last = (arcA L i).to_ := by simpa using p1
    obtain ⟨q, q1, q2, q3, q4⟩ := room_ok h.len p4 (xA x i - (arcA L i).lo)
    have hq1 := q4 (by omega)
    obtain ⟨y, y1, y2, y3, y4, y5⟩ := lead_ok hb (n := q) (by omega) h.len h.within p4 q3 p3 p2
    have hyi : xA y i = xA x i := y5 i (fun hm => by
     obtain ⟨s, hs, he⟩ := List.mem_map.1 hm
     exact (p4 s hs).skip (by rw [he]))
    rw [q1]
    dsimp only
    rw [if_pos (okN_of (by omega)), y1]
    dsimp only
    rw [x_at (by omega)]
    dsimp only
    rw [if_pos (okN_of (by omega))]
    have hE : Even L (y.set i (xA y i + -q)) := even_shift h y2 hi y3 y4 (by omega) (fun v => by
     unfold dl
     rw [p1]
     by_cases e1 : (arcA L i).to_ = v <;> by_cases e2 : (arcA L i).from_ = v <;> simp [e1, e2])
    exact ih _ hE (by rw [xA_set (by omega), if_pos rfl]; omega)
   ·obtain ⟨p1, p2, p3, p4⟩ := h2
    have hf : seen (arcA L i).to_ = false := by
     rcases hs : seen (arcA L i).to_ with _ | _
     ·rfl
     ·have := p2 _ hs
      simp at this
    refine ⟨_, _, rfl, h, ?_⟩
    unfold DrivePost
    rw [if_neg (by decide)]
    refine ⟨hf, p1, ?_⟩
    have h3 := cut_closed h.within p4
    rw [cut_zero hN hn h seen, sumN_only (f := fun j => cl L seen j * xA x j) hi] at h3
    have : cl L seen i = -1 := by unfold cl; rw [p1, hf]; rfl
    rw [this] at h3
    omega
  ·rw [if_neg hp]
   exact ⟨_, _, rfl, h, by show xA x i = _; rw [if_neg (by decide)]; omega⟩
/-! ### The ends of a parcel -/
/-- What the search for an end hands back. -/
def EndOk (L : List Arc) (i : Nat) (up : Bool) : BoundR → Prop
 | .none_ => ∀ x, ¬ Even L x
 | .end_ n y sn => Even L y ∧ n = xA y i ∧ DrivePost L i up y sn
theorem bound_ok {L : List Arc} (hb : Bd L) (hl : L.length ≤ 2000) {N : List Int} (hN : Ends L N) (hn : N.Pairwise (· ≠ ·)) (hnl : N.length ≤ 300) (p : Int) (up : Bool) (hp : L.findIdx (fun a => a.parcel == p) < L.length) :
  ∃ r, boundF L N p up = some r ∧ EndOk L (L.findIdx fun a => a.parcel == p) up r ∧ (r = .none_ ↔ ∀ x, ¬ Even L x) := by
 obtain ⟨r, h1, h2⟩ := bal_ok hb hl hN hn hnl
 have hno : (∀ x, r ≠ .even x) → ∀ x, ¬ Even L x := fun hr x he => by
  rcases r with p | seen | y
  ·obtain ⟨a, ha, _, hlt⟩ := h2
   obtain ⟨j, hj, hja⟩ := List.getElem_of_mem ha
   have := he.within j hj
   have e : arcA L j = a := by unfold arcA; rw [List.getElem?_eq_getElem hj, hja]; rfl
   rw [e] at this
   omega
  ·exact no_even hN hn h2 x he
  ·exact hr y rfl
 unfold boundF
 rw [h1]
 obtain ⟨i, hi⟩ : ∃ i, L.findIdx (fun a => a.parcel == p) = i := ⟨_, rfl⟩
 rw [hi] at hp ⊢
 rcases r with p | seen | x
 ·have := hno (fun _ h => by cases h)
  exact ⟨_, rfl, this, ⟨fun _ => this, fun _ => rfl⟩⟩
 ·have := hno (fun _ h => by cases h)
  exact ⟨_, rfl, this, ⟨fun _ => this, fun _ => rfl⟩⟩
 ·dsimp only
  rw [arc_at hp]
  dsimp only
  have h2 : Even L x := h2
  have hwi := h2.within i hp
  have hbi := hb _ (arc_mem hp)
  have hd : ∃ y sn, driveF L i (arcA L i) up drainN x = some (y, sn) ∧ Even L y ∧ DrivePost L i up y sn := by
   rcases up with _ | _
   ·exact drive_down hb hN hn hnl hp (drainN - 1) x h2 (by unfold drainN; omega)
   ·exact drive_up hb hN hn hnl hp (drainN - 1) x h2 (by unfold drainN; omega)
  obtain ⟨y, sn, e1, e2, e3⟩ := hd
  rw [e1]
  dsimp only
  rw [x_at (by rw [e2.len]; exact hp)]
  exact ⟨_, rfl, ⟨e2, rfl, e3⟩, ⟨fun h => (by cases h), fun h => absurd e2 (h y)⟩⟩
/-- The ends that are found are the greatest and the least amounts. -/
theorem end_up {L : List Arc} {N : List Int} (hN : Ends L N) (hn : N.Pairwise (· ≠ ·)) {i : Nat} (hi : i < L.length) {n : Int} {y : List Int} {sn : Option (Int → Bool)} (h : EndOk L i true (.end_ n y sn)) {x : List Int} (hx : Even L x) : xA x i ≤ n := by
 obtain ⟨_, rfl, h⟩ := h
 rcases sn with _ | seen
 ·have h : xA y i = if true then (arcA L i).hi else (arcA L i).lo := h
  rw [if_pos rfl] at h
  have := hx.within i hi
  omega
 ·unfold DrivePost at h
  rw [if_pos rfl] at h
  rw [h.2.2]
  exact up_most hN hn hi h.1 h.2.1 hx
theorem end_down {L : List Arc} {N : List Int} (hN : Ends L N) (hn : N.Pairwise (· ≠ ·)) {i : Nat} (hi : i < L.length) {n : Int} {y : List Int} {sn : Option (Int → Bool)} (h : EndOk L i false (.end_ n y sn)) {x : List Int} (hx : Even L x) : n ≤ xA x i := by
 obtain ⟨_, rfl, h⟩ := h
 rcases sn with _ | seen
 ·have h : xA y i = if false then (arcA L i).hi else (arcA L i).lo := h
  rw [if_neg (by decide)] at h
  have := hx.within i hi
  omega
 ·unfold DrivePost at h
  rw [if_neg (by decide)] at h
  rw [h.2.2]
  exact down_least hN hn hi h.1 h.2.1 hx
theorem parcel_span {C : List Ent} (hs : Sound (reps C)) (p : Int) : 1 ≤ (parcelF C p).lo ∧ (parcelF C p).lo ≤ 100000 ∧ 1 ≤ (parcelF C p).hi ∧ (parcelF C p).hi ≤ 100000000 := by
 have h1 := fold_max_ok (saysE C p) 1 (fun e he => by have := says_span hs he; omega) (by omega) (by omega)
 have h2 := fold_min_ok (saysE C p) 100000000 (fun e he => by have := says_span hs he; omega) (by omega) (by omega)
 exact ⟨h1.1, h1.2, h2.1, h2.2⟩
theorem arcs_bd {C : List Ent} (hs : Sound (reps C)) (ids : List Int) : Bd (arcsF C ids) := by
 intro a ha
 obtain ⟨p, _, rfl⟩ := List.mem_map.1 ha
 have := parcel_span hs p
 show -100000000 ≤ (parcelF C p).lo ∧ (parcelF C p).lo ≤ 100000000 ∧ -100000000 ≤ (parcelF C p).hi ∧ (parcelF C p).hi ≤ 100000000
 omega
theorem arcs_ends {C : List Ent} {ids : List Int} (hi : IdsOf C ids) : Ends (arcsF C ids) (nodesF (reps C)) := by
 intro a ha
 obtain ⟨p, hp, rfl⟩ := List.mem_map.1 ha
 have hin : ∀ e : Ent, e ∈ C → e.1.id ∈ nodesF (reps C) := fun e he => List.mem_cons_of_mem _ (List.mem_map.2 ⟨e.1, List.mem_map_of_mem (f := Prod.fst) he, rfl⟩)
 constructor
 ·show (if (parcelF C p).found then 0 else (entOr (makerE C p)).1.id) ∈ _
  split
  ·exact List.mem_cons_self
  ·have hm := ((hi.2 p).1 hp).1
   obtain ⟨e, he⟩ := Option.isSome_iff_exists.1 hm
   rw [he]
   exact hin e (makerE_some he).1
 ·show (entOr (userE C p)).1.id ∈ _
  rcases hu : userE C p with _ | u
  ·exact List.mem_cons_self
  ·exact hin u (userE_some hu).1
theorem nodes_ok {L : List Ent} (hv : Valid (reps L)) (K : Int) : (nodesF (reps (countE L K))).Pairwise (· ≠ ·) := by
 have hs : Sound (reps (countE L K)) := by rw [countE_reps]; exact hv.sound K
 unfold nodesF
 rw [List.pairwise_cons]
 constructor
 ·intro i hi e
  obtain ⟨r, hr, rfl⟩ := List.mem_map.1 hi
  have := (hs.wfs r hr).id.1
  omega
 ·rw [List.pairwise_map, countE_reps]
  exact hv.ids.filter _
theorem arcs_idx {C : List Ent} {ids : List Int} {p : Int} (hp : p ∈ ids) : (arcsF C ids).findIdx (fun a => a.parcel == p) < (arcsF C ids).length :=
 List.findIdx_lt_length_of_exists ⟨arcF C p, List.mem_map_of_mem hp, by simp [arcF]⟩
/-- What the flows ask of a beach. -/
structure Net (C : List Ent) (ids : List Int) : Prop where
 bd : Bd (arcsF C ids)
 len : (arcsF C ids).length ≤ 2000
 ends : Ends (arcsF C ids) (nodesF (reps C))
 nodup : (nodesF (reps C)).Pairwise (· ≠ ·)
 few : (nodesF (reps C)).length ≤ 300
theorem net_ok {L : List Ent} (hv : Valid (reps L)) {K : Int} {ids : List Int} (hi : IdsOf (countE L K) ids) : Net (countE L K) ids := by
 have hs : Sound (reps (countE L K)) := by rw [countE_reps]; exact hv.sound K
 have hl := hv.len
 have hc := countE_len L K
 rw [List.length_map] at hl
 refine ⟨arcs_bd hs ids, ?_, arcs_ends hi, nodes_ok hv K, ?_⟩
 ·have := ids_few hs (by omega) hi
  unfold arcsF
  rw [List.length_map]
  omega
 ·unfold nodesF
  rw [List.length_cons, List.length_map, List.length_map]
  omega
theorem weight_is {L : List Ent} (hv : Valid (reps L)) {K : Int} {ids : List Int} (hi : IdsOf (countE L K) ids) {p : Int} (hp : p ∈ ids) : ∃ lo hi en, weightF (countE L K) ids p = some (lo, hi, en) := by
 have hn := net_ok hv hi
 obtain ⟨r, h1, _⟩ := bound_ok hn.bd hn.len hn.ends hn.nodup hn.few p false (arcs_idx hp)
 obtain ⟨s, k1, _⟩ := bound_ok hn.bd hn.len hn.ends hn.nodup hn.few p true (arcs_idx hp)
 unfold weightF
 rw [h1]
 rcases r with _ | ⟨lo, y, sn⟩
 ·exact ⟨_, _, _, rfl⟩
 ·dsimp only
  rw [k1]
  rcases s with _ | ⟨hi, z, sm⟩ <;> exact ⟨_, _, _, rfl⟩
end Go.Proofs.YtfaoillnakhejaaGreat
