/- The program's test whether finds are crowded: more of them than their slots have room for. -/
import Derived.Test.YtpmdjbjnihhjeaaRefuse
import Derived.Test.YtpmdjbjnihhjeaaCheck
namespace Go.Proofs.Ytpmdjbjnihhjeaa
open Go.RowKit

/-- How much room there is at the slots near the finds, one less at slot s. -/
def spareRoom (b : Board) (H : List Int) (s : Int) : Int := sumTo (fun x => if Near b.fits H (x : Int) = true then roomOf (pieces b.slots) (x : Int) - (if (x : Int) = s then 1 else 0) else 0) b.slots.length
structure Board.Crowded (b : Board) (H : List Int) (f s : Int) : Prop where
  rise : Rise H 0 ((b.finds.length : Int) - 1)
  fit : ∀ x ∈ H, x ≠ f ∧ fitOf b.fits x.toNat ≠ []
  few : spareRoom b H s < H.length
open Classical in
noncomputable def crowdB (b : Board) (H : List Int) (f s : Int) : Bool := decide (b.Crowded H f s)
theorem crowd_yes {b : Board} {H : List Int} {f s : Int} (h : b.Crowded H f s) : crowdB b H f s = true := by simpa [crowdB] using h
theorem crowd_no {b : Board} {H : List Int} {f s : Int} (h : ¬ b.Crowded H f s) : crowdB b H f s = false := by simpa [crowdB] using h
theorem crowd_iff {b : Board} {H : List Int} {f s : Int} : crowdB b H f s = true ↔ b.Crowded H f s := by simp [crowdB]

/-- The room of the slots that were met. -/
def metRoom (b : Board) (ks : List Int) (s : Int) : Int := sumTo (fun x => if (x : Int) ∈ ks then roomOf (pieces b.slots) (x : Int) - (if (x : Int) = s then 1 else 0) else 0) b.slots.length
theorem sumTo_one_at (c : Int) (k : Nat) : ∀ n : Nat, sumTo (fun x => if x = k then c else 0) n = if k < n then c else 0
  | 0 => rfl
  | n + 1 => by
    rw [sumTo, sumTo_one_at c k n]
    by_cases h : k < n
    · rw [if_pos h, if_neg (by omega), if_pos (by omega)]; omega
    · by_cases e : n = k
      · rw [if_neg h, if_pos e, if_pos (by omega)]; omega
      · rw [if_neg h, if_neg e, if_neg (by omega)]; omega
theorem metRoom_snoc {b : Board} {ks : List Int} {s : Int} {k : Nat} (hk : k < b.slots.length) (hn : (k : Int) ∉ ks) : metRoom b (ks ++ [(k : Int)]) s = metRoom b ks s + (b.slots[k].pieces - (if (k : Int) = s then 1 else 0)) := by
  have h1 := sumTo_one_at (b.slots[k].pieces - (if (k : Int) = s then 1 else 0)) k b.slots.length
  rw [if_pos hk] at h1
  rw [← h1]
  unfold metRoom
  rw [← sumTo_add]
  refine sumTo_congr fun x hx => ?_
  by_cases e : x = k
  · subst e
    rw [if_pos (by simp), if_neg hn, if_pos rfl, roomOf_lt (by rw [pieces_length]; exact hx)]
    simp [pieces]
  · rw [if_neg e]
    have : ((x : Int) ∈ ks ++ [(k : Int)]) ↔ (x : Int) ∈ ks := by
      rw [List.mem_append, List.mem_singleton]
      constructor
      · rintro (h | h)
        · exact h
        · omega
      · exact .inl
    by_cases hm : (x : Int) ∈ ks
    · rw [if_pos (this.2 hm), if_pos hm]; omega
    · rw [if_neg (fun h => hm (this.1 h)), if_neg hm]; omega
theorem sumTo_le_const {g : Nat → Int} {c : Int} : ∀ n : Nat, (∀ i, i < n → 0 ≤ g i ∧ g i ≤ c) → 0 ≤ sumTo g n ∧ sumTo g n ≤ c * n
  | 0, _ => by simp [sumTo]
  | n + 1, h => by
    have := sumTo_le_const n (fun i hi => h i (by omega))
    have := h n (by omega)
    have : c * ((n + 1 : Nat) : Int) = c * n + c := by rw [Int.natCast_add, Int.mul_add]; simp
    simp only [sumTo]
    omega
theorem Board.Good.few {b : Board} (h : b.Good) (k : Nat) (hk : k < b.slots.length) : 1 ≤ b.slots[k].pieces ∧ b.slots[k].pieces ≤ 20 := by
  have := (h.slots k hk hk).1
  unfold Slot.ok at this
  omega
theorem metRoom_few {b : Board} (hg : b.Good) (h200 : b.slots.length ≤ 200) (ks : List Int) (s : Int) : 0 ≤ metRoom b ks s ∧ metRoom b ks s ≤ 4000 := by
  have h := sumTo_le_const (g := fun x : Nat => if (x : Int) ∈ ks then roomOf (pieces b.slots) (x : Int) - (if (x : Int) = s then 1 else 0) else 0) (c := 20) b.slots.length (fun i hi => by
    have h1 := hg.few i hi
    rw [roomOf_lt (by rw [pieces_length]; exact hi)]
    have h2 : (pieces b.slots)[i]'(by rw [pieces_length]; exact hi) = b.slots[i].pieces := by simp [pieces]
    rw [h2]
    split
    · split <;> omega
    · omega)
  unfold metRoom
  omega
theorem metRoom_near {b : Board} {H ks : List Int} {s : Int} (h : ∀ x : Int, x ∈ ks ↔ ∃ f ∈ H, x ∈ fitOf b.fits f.toNat) : metRoom b ks s = spareRoom b H s := by
  unfold metRoom spareRoom
  refine sumTo_congr fun x _ => ?_
  by_cases hm : (x : Int) ∈ ks
  · rw [if_pos hm, if_pos (near_iff.2 ((h _).1 hm))]
  · rw [if_neg hm, if_neg (fun hn => hm ((h _).2 (near_iff.1 hn)))]

/-- The slots met, as keys of a map. -/
def slotOf (b : Board) (x : Int) : Slot := (b.slots[x.toNat]?).getD ⟨0, 0, 0⟩
theorem slotOf_lt {b : Board} {k : Nat} (h : k < b.slots.length) : slotOf b (k : Int) = b.slots[k] := by simp [slotOf, h]
def metKeys (b : Board) (ks : List Int) : List (Slot × Bool) := ks.map fun x => (slotOf b x, true)
theorem slots_ne {b : Board} (hg : b.Good) {i j : Nat} (hi : i < b.slots.length) (hj : j < b.slots.length) (h : b.slots[i] = b.slots[j]) : i = j := by
  have key : ∀ i j : Nat, ∀ (hi : i < b.slots.length) (hj : j < b.slots.length), i < j → b.slots[i] ≠ b.slots[j] := fun i j hi hj hij h => by
    have := SlotsTo.lt hg.slots j i hj hi hj hij
    rw [h] at this
    unfold Slot.lt at this
    omega
  rcases Nat.lt_trichotomy i j with h1 | h1 | h1
  · exact absurd h (key i j hi hj h1)
  · exact h1
  · exact absurd h.symm (key j i hj hi h1)
theorem look_met {b : Board} (hg : b.Good) {k : Nat} (hk : k < b.slots.length) : ∀ (ks : List Int) (i : Nat), (∀ x ∈ ks, 0 ≤ x ∧ x < b.slots.length) →
    (∃ j, look b.slots[k] (metKeys b ks) i = some (j, true)) ∧ (k : Int) ∈ ks ∨ look b.slots[k] (metKeys b ks) i = none ∧ (k : Int) ∉ ks
  | [], i, _ => .inr ⟨rfl, by simp⟩
  | x :: ks, i, h => by
    obtain ⟨h0, h1⟩ := h x (by simp)
    obtain ⟨q, rfl⟩ : ∃ q : Nat, x = (q : Int) := ⟨x.toNat, by omega⟩
    have hq : q < b.slots.length := by omega
    by_cases e : b.slots[k] = b.slots[q]
    · have := slots_ne hg hk hq e
      subst this
      exact .inl ⟨⟨i, by simp [metKeys, look, slotOf_lt hq]⟩, by simp⟩
    · have hne : (k : Int) ≠ q := fun e2 => e (by congr 1; omega)
      rcases look_met hg hk ks (i + 1) (fun y hy => h y (by simp [hy])) with ⟨⟨j, h2⟩, h3⟩ | ⟨h2, h3⟩
      · refine .inl ⟨⟨j, ?_⟩, by simp [h3]⟩
        simp only [metKeys, List.map_cons, look, slotOf_lt hq, if_neg e]
        exact h2
      · refine .inr ⟨?_, by simp [h3, hne]⟩
        simp only [metKeys, List.map_cons, look, slotOf_lt hq, if_neg e]
        exact h2
theorem metKeys_store {b : Board} {ks : List Int} {k : Nat} (hk : k < b.slots.length) (h : look b.slots[k] (metKeys b ks) 0 = none) : store (metKeys b ks) b.slots[k] true = metKeys b (ks ++ [(k : Int)]) := by
  unfold store
  rw [h]
  simp [metKeys, slotOf_lt hk]

/-- The finds ahead of i have no fault, and the slots met are those that they fit. -/
structure MetTo (b : Board) (H : List Int) (f : Int) (i : Nat) (ks : List Int) : Prop where
  inside : ∀ x ∈ ks, 0 ≤ x ∧ x < b.slots.length
  near : ∀ x : Int, x ∈ ks ↔ ∃ y ∈ H.take i, x ∈ fitOf b.fits y.toNat
  fit : ∀ y ∈ H.take i, y ≠ f ∧ fitOf b.fits y.toNat ≠ []
/-- And the first j slots of the next. -/
structure MetIn (b : Board) (H : List Int) (i : Nat) (L : List Int) (j : Nat) (ks : List Int) : Prop where
  inside : ∀ x ∈ ks, 0 ≤ x ∧ x < b.slots.length
  near : ∀ x : Int, x ∈ ks ↔ (∃ y ∈ H.take i, x ∈ fitOf b.fits y.toNat) ∨ x ∈ L.take j
theorem MetTo.inner {b : Board} {H : List Int} {f : Int} {i : Nat} {ks L : List Int} (h : MetTo b H f i ks) : MetIn b H i L 0 ks := ⟨h.inside, fun x => by rw [h.near x]; simp⟩
theorem MetIn.old {b : Board} {H : List Int} {i j k : Nat} {ks L : List Int} (h : MetIn b H i L j ks) (hj : j < L.length) (e : L[j] = (k : Int)) (hk : (k : Int) ∈ ks) : MetIn b H i L (j + 1) ks :=
  ⟨h.inside, fun x => by
    rw [h.near x, List.take_succ_eq_append_getElem hj, List.mem_append, List.mem_singleton]
    constructor
    · rintro (h1 | h1)
      · exact .inl h1
      · exact .inr (.inl h1)
    · rintro (h1 | h1 | rfl)
      · exact .inl h1
      · exact .inr h1
      · rw [e]; exact (h.near _).1 hk⟩
theorem MetIn.new {b : Board} {H : List Int} {i j k : Nat} {ks L : List Int} (h : MetIn b H i L j ks) (hj : j < L.length) (e : L[j] = (k : Int)) (hk : k < b.slots.length) : MetIn b H i L (j + 1) (ks ++ [(k : Int)]) :=
  ⟨fun x hx => by
    rw [List.mem_append, List.mem_singleton] at hx
    rcases hx with hx | rfl
    · exact h.inside x hx
    · omega, fun x => by
    rw [List.take_succ_eq_append_getElem hj, List.mem_append, List.mem_append, List.mem_singleton, List.mem_singleton, h.near x, e, or_assoc]⟩
theorem MetIn.outer {b : Board} {H : List Int} {f : Int} {i : Nat} {ks ks' L : List Int} (h0 : MetTo b H f i ks) (h : MetIn b H i L L.length ks') (hi : i < H.length) (hL : fitOf b.fits H[i].toNat = L) (hne : L ≠ []) (hf : H[i] ≠ f) : MetTo b H f (i + 1) ks' :=
  ⟨h.inside, fun x => by
    rw [h.near x, List.take_length, List.take_succ_eq_append_getElem hi, ← hL]
    simp only [List.mem_append, List.mem_singleton]
    constructor
    · rintro (⟨y, h1, h2⟩ | h1)
      · exact ⟨y, .inl h1, h2⟩
      · exact ⟨_, .inr rfl, h1⟩
    · rintro ⟨y, h1 | rfl, h2⟩
      · exact .inl ⟨y, h1, h2⟩
      · exact .inr h2, fun y hy => by
    rw [List.take_succ_eq_append_getElem hi, List.mem_append, List.mem_singleton] at hy
    rcases hy with hy | rfl
    · exact h0.fit y hy
    · exact ⟨hf, by rw [hL]; exact hne⟩⟩
theorem met_take {b : Board} {H : List Int} {f s : Int} {ks : List Int} (h : MetTo b H f H.length ks) (hr : Rise H 0 ((b.finds.length : Int) - 1)) : (0 < (H.length : Int) - metRoom b ks s) ↔ b.Crowded H f s := by
  have hn := h.near
  have hf := h.fit
  rw [List.take_length] at hn hf
  rw [metRoom_near hn]
  exact ⟨fun h1 => ⟨hr, hf, by omega⟩, fun h1 => by have := h1.few; omega⟩

set_option maxRecDepth 100000 in
set_option maxHeartbeats 16000000 in
theorem crowded_any (b : Board) (Af As At Al : Option Addr) (cf cs ct cl : Nat) (H : List Int) (f s : Int) (w : World) (hs : b.small) (hc : b.check = 0) (hl : H.length ≤ 80) (hB : BoardAt w Af As At b) (hL : IntsAt w Al H) :
    Calls Try.prog 75 #[.agg #[.slice Af b.finds.length cf, .slice As b.slots.length cs, .slice At b.fits.length ct], .slice Al H.length cl, .int .i64 f, .int .i64 s] w fun e w' => e = .returned (.bool (crowdB b H f s)) ∧ Below w.heap.size w w' := by
  obtain ⟨W, hW, c0, c1, c2, hbW, hz⟩ := box3 w (.slice Af b.finds.length cf) (.slice As b.slots.length cs) (.slice At b.fits.length ct) 26
  have HBW := hid hbW
  have hB0 := hid hB
  have hL0 := hid hL
  have hLW := hid (hL.kept (Kept.of_below hbW))
  have HG := hid (Board.check_good hc)
  have HFI := hid (Board.check_fine hs hc)
  have hsz := Board.check_sizes hc
  have n1 := hsz.1
  have n2 := hsz.2
  have HN : Hid (b.fits.length = b.finds.length) := hid HFI.out.fits
  have hmm := @run_makeMap Try.prog
  clear hz hB hL hbW hs hsz
  rcases ht : decide (Rise H 0 ((b.finds.length : Int) - 1)) with _ | _
  · have HT := hid ht
    clear ht
    go_enter Try.func75, Try.ntmps75
    go_wp2_with (go_at_call 68; refine (rising_t _ _ _ _ _ _ (by omega) hLW.out HT.out).mono ?_; rintro e w' ⟨rfl, rfl⟩)
    go_ret
    exact ⟨ret_bool (crowd_no fun h => absurd h.rise (of_decide_eq_false HT.out)).symm, HBW.out⟩
  have HT := hid ht
  clear ht
  obtain ⟨V, hV, hmap, hbV, hzV⟩ := mapNew W
  have kV := Kept.of_below hbV
  have c0V := kV _ _ c0
  have c1V := kV _ _ c1
  have c2V := kV _ _ c2
  have HBV := hid (HBW.out.trans (hbV.mono HBW.out.size))
  have HQV : Hid (V.heap.size = W.heap.size + 1 ∧ W.heap.size = w.heap.size + 1) := hid ⟨hzV, by rw [← hW]; simp⟩
  have HM := hid hmap
  clear kV hzV hbV hmap
  go_enter Try.func75, Try.ntmps75
  go_wp2_with (go_at_call 68; refine (rising_t _ _ _ _ _ _ (by omega) hLW.out HT.out).mono ?_; rintro e w' ⟨rfl, rfl⟩)
  clear hW hV c0 c1 c2 hLW HBW
  go_loopg [10, 27] (H.length) (fun g r i wr => ∃ (k : Nat) (ks : List Int), k ≤ H.length ∧ g = H.length - k ∧ i = .int .i64 k ∧ r = .int .i64 ((H.length : Int) - metRoom b ks s) ∧ Hid (MetTo b H f k ks) ∧ Hid (MapAt wr W.heap.size eSlot Value.bool (metKeys b ks)) ∧ Hid (Below W.heap.size V wr))
  case atStart => exact ⟨0, [], by omega, by omega, rfl, by simp [metRoom, sumTo_zero], hid ⟨by simp, by simp, by simp⟩, HM, hid (Below.refl _ _)⟩
  case round =>
    obtain ⟨k, ks, hk, hgk, rfl, rfl, hmet, hmk, hbw⟩ := hrel
    have hz0 : w.heap.size < W.heap.size := by have := HQV.out; omega
    have x0 := (hbw.out.cell (p := ⟨w.heap.size, 0, none⟩) hz0).trans c0V
    have x1 := (hbw.out.cell (p := ⟨w.heap.size, 1, none⟩) hz0).trans c1V
    have x2 := (hbw.out.cell (p := ⟨w.heap.size, 2, none⟩) hz0).trans c2V
    have HBR : Hid (Below w.heap.size w wr) := hid (HBV.out.trans (hbw.out.mono (by omega)))
    have hm1 := metRoom_few HG.out n2 ks s
    by_cases hlt : k < H.length
    · obtain ⟨lb, loff, rfl, hlc⟩ := hL0.out (by omega)
      have kw := Kept.of_below HBR.out
      have y0 := kw _ _ (hlc k hlt)
      have i0 : (0 : Int) ≤ k := by omega
      have i1 : (k : Int) < H.length := by omega
      have hx := (rise_iff.1 (of_decide_eq_true HT.out)).2 _ (List.getElem_mem hlt)
      obtain ⟨q, hq⟩ : ∃ q : Nat, H[k] = (q : Int) := ⟨H[k].toNat, by omega⟩
      rw [hq] at y0 hx
      have hqn : q < b.fits.length := by rw [HN.out]; omega
      have i2 : (0 : Int) ≤ q := by omega
      have i3 : (q : Int) < b.fits.length := by omega
      have HQ := hid hq
      have HFC : Hid (H[k] ∈ H) := hid (List.getElem_mem hlt)
      obtain ⟨fb, foff, rfl, hfc⟩ := hB0.out.fits (by omega)
      obtain ⟨Aj, cj, f1, f2⟩ := hfc q hqn
      have hlenL := HFI.out.lens _ (List.getElem_mem hqn)
      obtain ⟨L, hL⟩ : ∃ L, L = b.fits[q] := ⟨_, rfl⟩
      rw [← hL] at f1 f2 hlenL
      have HL : Hid (fitOf b.fits q = L) := hid ((fitOf_lt hqn).trans hL.symm)
      have f1' := kw _ _ f1
      have F2 := hid f2
      clear hlc hfc hL f1 f2 hx hq kw
      by_cases hf : (q : Int) = f
      · have d1 : ((q : Int) == f) = true := beq_iff_eq.2 hf
        have HF := hid hf
        clear hf
        go_wp2_with fail
        go_ret
        exact ⟨ret_bool (crowd_no fun h => (h.fit _ HFC.out).1 (HQ.out.trans HF.out)).symm, HBR.out⟩
      have d1 : ((q : Int) == f) = false := beq_eq_false_iff_ne.2 hf
      have HF := hid hf
      clear hf
      by_cases h0 : L.length = 0
      · have d2 : ((L.length : Int) == 0) = true := beq_iff_eq.2 (by omega)
        have H0 : Hid (L = []) := hid (List.eq_nil_of_length_eq_zero h0)
        clear h0
        go_wp2_with fail
        go_ret
        refine ⟨ret_bool (crowd_no fun h => (h.fit _ HFC.out).2 ?_).symm, HBR.out⟩
        rw [HQ.out, Int.toNat_natCast, HL.out, H0.out]
      have d2 : ((L.length : Int) == 0) = false := beq_eq_false_iff_ne.2 (by omega)
      have H0 : Hid (L ≠ []) := hid (fun e => h0 (by rw [e]; rfl))
      have H1000 := hid hlenL
      clear h0
      go_wp2_with fail
      clear f1' y0
      go_loopg [10, 49] (L.length) (fun g r i wr' => ∃ (j : Nat) (ks : List Int), j ≤ L.length ∧ g = L.length - j ∧ i = .int .i64 j ∧ r = .int .i64 ((H.length : Int) - metRoom b ks s) ∧ Hid (MetIn b H k L j ks) ∧ Hid (MapAt wr' W.heap.size eSlot Value.bool (metKeys b ks)) ∧ Hid (Below W.heap.size V wr'))
      case atStart => exact ⟨0, ks, by omega, by omega, rfl, rfl, hid hmet.out.inner, hmk, hbw⟩
      case round =>
        obtain ⟨j, ks', hj, hgj, rfl, rfl, hmi, hmk', hbw'⟩ := hrel
        have x0 := (hbw'.out.cell (p := ⟨w.heap.size, 0, none⟩) hz0).trans c0V
        have x1 := (hbw'.out.cell (p := ⟨w.heap.size, 1, none⟩) hz0).trans c1V
        have HBR' : Hid (Below w.heap.size w wr) := hid (HBV.out.trans (hbw'.out.mono (by omega)))
        have hm2 := metRoom_few HG.out n2 ks' s
        by_cases hlj : j < L.length
        · obtain ⟨mb, moff, rfl, hmc⟩ := F2.out (by omega)
          have kw := Kept.of_below HBR'.out
          have y0 := kw _ _ (hmc j hlj)
          have i4 : (0 : Int) ≤ j := by omega
          have i5 : (j : Int) < L.length := by omega
          have hin := HG.out.inside q L[j] (by rw [HL.out]; exact List.getElem_mem hlj)
          rw [pieces_length] at hin
          obtain ⟨p, hp⟩ : ∃ p : Nat, L[j] = (p : Int) := ⟨L[j].toNat, by omega⟩
          rw [hp] at y0 hin
          have hpn : p < b.slots.length := by omega
          have i6 : (0 : Int) ≤ p := by omega
          have i7 : (p : Int) < b.slots.length := by omega
          have HP := hid hp
          obtain ⟨sb, soff, rfl, hsc⟩ := hB0.out.slots (by omega)
          obtain ⟨s0, s1, s2⟩ := hsc p hpn
          have s0' := kw _ _ s0
          have s1' := kw _ _ s1
          have s2' := kw _ _ s2
          have hfew := HG.out.few p hpn
          clear hmc hp hin hsc s0 s1 s2 kw
          have hlook := run_look (w := wr) slot_fits map_u (.bool false) (bool_zero _) hmk'.out b.slots[p]
          unfold eSlot at hlook
          rcases look_met HG.out hpn ks' 0 hmi.out.inside with ⟨⟨jj, hjj⟩, hmem⟩ | ⟨hnone, hnot⟩
          · rw [hjj] at hlook
            have hlook2 : Sem.run Try.prog (Instr.lookup 97 (.map (some W.heap.size)) (.agg #[.int .i64 b.slots[p].loss, .int .i64 b.slots[p].pack, .int .i64 b.slots[p].pieces]) false) wr = .ok (.bool true) wr := hlook
            have HMEM := hid hmem
            clear hlook hjj hmem
            go_wp2_with fail
            go_roundg (L.length - (j + 1))
            case measure => omega
            case rel => exact ⟨j + 1, ks', by omega, rfl, by go_num, rfl, hid (hmi.out.old hlj HP.out HMEM.out), hmk', hbw'⟩
          · rw [hnone] at hlook
            have hlook2 : Sem.run Try.prog (Instr.lookup 97 (.map (some W.heap.size)) (.agg #[.int .i64 b.slots[p].loss, .int .i64 b.slots[p].pack, .int .i64 b.slots[p].pieces]) false) wr = .ok (.bool false) wr := hlook
            have HNOT := hid hnot
            obtain ⟨w4, hrun, hm4, hg4⟩ := run_store (w := wr) slot_fits map_u hmk'.out b.slots[p] true
            unfold eSlot at hrun
            rw [metKeys_store hpn hnone] at hm4
            have hb4 : Below W.heap.size V w4 := hbw'.out.grown hg4 (by have := hbw'.out.size; have := HQV.out; omega) (fun g e => by cases e; exact Nat.le_refl _)
            have HB4 := hid hb4
            have HM4 := hid hm4
            have z1 := (hb4.cell (p := ⟨w.heap.size, 1, none⟩) hz0).trans c1V
            have HBR4 : Hid (Below w.heap.size w w4) := hid (HBV.out.trans (hb4.mono (by omega)))
            have t2 : w4.cell? ⟨sb, soff + p * 3 + 2, none⟩ = some (.int .i64 b.slots[p].pieces) := by
              obtain ⟨sb', soff', he, hsc⟩ := hB0.out.slots (by omega)
              cases he
              exact (Kept.of_below HBR4.out) _ _ (hsc p hpn).2.2
            have hms := metRoom_snoc (s := s) hpn hnot
            have HMI := hid (hmi.out.new hlj HP.out hpn)
            clear hlook hnone hnot hm4 hb4 hg4
            by_cases hps : (p : Int) = s
            · have d3 : ((p : Int) == s) = true := beq_iff_eq.2 hps
              rw [if_pos hps] at hms
              have HMS := hid hms
              clear hps hms
              go_wp2_with fail
              go_roundg (L.length - (j + 1))
              case measure => omega
              case rel => exact ⟨j + 1, ks' ++ [(p : Int)], by omega, rfl, by go_num, by rw [HMS.out]; go_num, HMI, HM4, HB4⟩
            · have d3 : ((p : Int) == s) = false := beq_eq_false_iff_ne.2 hps
              rw [if_neg hps] at hms
              have HMS := hid hms
              clear hps hms
              go_wp2_with fail
              go_roundg (L.length - (j + 1))
              case measure => omega
              case rel => exact ⟨j + 1, ks' ++ [(p : Int)], by omega, rfl, by go_num, by rw [HMS.out]; go_num, HMI, HM4, HB4⟩
        · obtain rfl : j = L.length := by omega
          have HMO := hid (MetIn.outer hmet.out hmi.out hlt (by rw [HQ.out, Int.toNat_natCast]; exact HL.out) H0.out (by rw [HQ.out]; exact HF.out))
          go_wp2_with fail
          go_roundg (H.length - (k + 1))
          case measure => omega
          case rel => exact ⟨k + 1, ks', by omega, rfl, by go_num, rfl, HMO, hmk', hbw'⟩
    · obtain rfl : k = H.length := by omega
      have hiff := met_take (s := s) hmet.out (of_decide_eq_true HT.out)
      have HIFF := hid hiff
      clear hlt hgk hk hiff
      by_cases hpos : 0 < (H.length : Int) - metRoom b ks s
      · have HP := hid hpos
        go_wp2_with fail
        go_ret
        refine ⟨ret_bool ?_, HBR.out⟩
        rw [crowd_yes (HIFF.out.1 HP.out)]
        simp; omega
      · have HP : Hid (¬ 0 < (H.length : Int) - metRoom b ks s) := hid hpos
        go_wp2_with fail
        go_ret
        refine ⟨ret_bool ?_, HBR.out⟩
        rw [crowd_no (fun h => by have h1 := HIFF.out.2 h; have h2 := HP.out; omega)]
        simp; omega
end Go.Proofs.Ytpmdjbjnihhjeaa
