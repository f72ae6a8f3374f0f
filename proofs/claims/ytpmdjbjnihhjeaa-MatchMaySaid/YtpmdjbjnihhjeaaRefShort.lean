/- The reference's test whether finds are crowded. -/
import Derived.Test.YtpmdjbjnihhjeaaCrowded
import Derived.Test.YtpmdjbjnihhjeaaRefMeets
namespace Go.Proofs.Ytpmdjbjnihhjeaa
open Go.RowKit

/-- The slots met, as a row of marks. -/
def metB (b : Board) (ks : List Int) : List Bool := (List.range b.slots.length).map fun (x : Nat) => decide ((x : Int) ∈ ks)
theorem metB_length (b : Board) (ks : List Int) : (metB b ks).length = b.slots.length := by simp [metB]
theorem metB_nil (b : Board) : metB b [] = List.replicate b.slots.length false := by
  apply List.ext_getElem <;> simp [metB]
theorem metB_get {b : Board} {ks : List Int} {k : Nat} (h : k < (metB b ks).length) : (metB b ks)[k] = decide ((k : Int) ∈ ks) := by simp [metB]
theorem metB_set {b : Board} {ks : List Int} {p : Nat} : (metB b ks).set p true = metB b (ks ++ [(p : Int)]) := by
  apply List.ext_getElem
  · simp [metB]
  · intro i h1 h2
    rw [List.getElem_set, metB_get, metB_get]
    by_cases e : p = i
    · subst e; simp
    · rw [if_neg e]
      have : ((i : Int) ∈ ks ++ [(p : Int)]) ↔ (i : Int) ∈ ks := by
        rw [List.mem_append, List.mem_singleton]
        exact ⟨fun h => by rcases h with h | h; exact h; omega, .inl⟩
      simp only [this]
/-- The part of the room ahead of slot k. -/
def metTo (b : Board) (ks : List Int) (s : Int) (k : Nat) : Int := sumTo (fun x => if (x : Int) ∈ ks then roomOf (pieces b.slots) (x : Int) - (if (x : Int) = s then 1 else 0) else 0) k
theorem metTo_few {b : Board} (hg : b.Good) (h200 : b.slots.length ≤ 200) (ks : List Int) (s : Int) {k : Nat} (hk : k ≤ b.slots.length) : 0 ≤ metTo b ks s k ∧ metTo b ks s k ≤ 4000 := by
  have h := sumTo_le_const (g := fun x : Nat => if (x : Int) ∈ ks then roomOf (pieces b.slots) (x : Int) - (if (x : Int) = s then 1 else 0) else 0) (c := 20) k (fun i hi => by
    have h1 := hg.few i (by omega)
    rw [roomOf_lt (by rw [pieces_length]; omega)]
    have h2 : (pieces b.slots)[i]'(by rw [pieces_length]; omega) = b.slots[i].pieces := by simp [pieces]
    rw [h2]
    split
    · split <;> omega
    · omega)
  unfold metTo
  omega
theorem metTo_succ {b : Board} {ks : List Int} {s : Int} {k : Nat} (hk : k < b.slots.length) : metTo b ks s (k + 1) = metTo b ks s k + if (k : Int) ∈ ks then b.slots[k].pieces - (if (k : Int) = s then 1 else 0) else 0 := by
  have h2 : roomOf (pieces b.slots) (k : Int) = b.slots[k].pieces := by rw [roomOf_lt (by rw [pieces_length]; exact hk)]; simp [pieces]
  unfold metTo
  rw [sumTo, h2]
theorem rise_pos {H : List Int} {n : Int} (h : Rise H 0 n) : ∀ y ∈ H, y ≠ -1 := fun y hy => by have := (rise_iff.1 h).2 y hy; omega

set_option maxRecDepth 100000 in
set_option maxHeartbeats 16000000 in
theorem refShort_any (b : Board) (Af As At Al : Option Addr) (cf cs ct cl : Nat) (H : List Int) (s : Int) (w : World) (hs : b.small) (hc : b.check = 0) (hl : H.length ≤ 80) (hB : BoardAt w Af As At b) (hL : IntsAt w Al H) :
    Calls Try.prog 73 #[.agg #[.slice Af b.finds.length cf, .slice As b.slots.length cs, .slice At b.fits.length ct], .slice Al H.length cl, .int .i64 s] w fun e w' => e = .returned (.bool (crowdB b H (-1) s)) ∧ Below w.heap.size w w' := by
  obtain ⟨W, hW, c0, c1, c2, hbW, hz⟩ := box3 w (.slice Af b.finds.length cf) (.slice As b.slots.length cs) (.slice At b.fits.length ct) 26
  have HBW := hid hbW
  have hB0 := hid hB
  have hL0 := hid hL
  have hLW := hid (hL.kept (Kept.of_below hbW))
  have HG := hid (Board.check_good hc)
  have HFI := hid (Board.check_fine hs hc)
  have hsz := Board.check_sizes hc
  have n1 := hsz.1
  have n2 := hsz.2
  have HN : Hid (b.fits.length = b.finds.length) := hid HFI.out.fits
  clear hz hB hL hbW hs hsz
  rcases ht : decide (Rise H 0 ((b.finds.length : Int) - 1)) with _ | _
  · have HT := hid ht
    clear ht
    go_enter Try.func73, Try.ntmps73
    go_wp2_with fail
    refine (asc_t _ _ _ _ _ (by omega) hLW.out HT.out).mono ?_
    rintro e w2 ⟨rfl, hd⟩
    have HD := hid hd
    clear hd
    go_wp2_with fail
    go_ret
    exact ⟨ret_bool (crowd_no fun h => absurd h.rise (of_decide_eq_false HT.out)).symm, HBW.out.trans (HD.out.below _)⟩
  have HT := hid ht
  clear ht
  obtain ⟨i, i1, i2, i3, i4⟩ := bools_info
  have IB : Hid (i.bytes = 1) := hid i4
  clear i4
  go_enter Try.func73, Try.ntmps73
  go_wp2_with fail
  refine (asc_t _ _ _ _ _ (by omega) hLW.out HT.out).mono ?_
  rintro e w2 ⟨rfl, hd⟩
  have h02 : Below W.heap.size W w2 := hd.below _
  have k0 := (Kept.of_below h02) _ _ c0
  have k1 := (Kept.of_below h02) _ _ c1
  have k2 := (Kept.of_below h02) _ _ c2
  have H02 := hid (HBW.out.trans (h02.mono HBW.out.size))
  clear hd h02 c0 c1 c2 hW hLW
  go_wp2_with (at_make; refine wpList_make_full _ rfl _ _ 104 rfl w2.heap.size 4 i (.bool false) 1 boolsl_u i1 i2 i3 .i64 .i64 _ _ b.slots.length rfl rfl rfl rfl ?_ ?_ (Nat.le_refl _) ?_)
  · rw [IB.out]; omega
  · unfold maxLen; omega
  rintro w1 hown hgrow
  rw [made1] at hown
  have hblk := (own_block hown).1
  have hrow0 : Hid (RowAt Value.bool w1 w2.heap.size (metB b [])) := hid (fun j hj => by
    have hg : w1.heap[w2.heap.size]? = some (.cells (List.replicate b.slots.length (.bool false)).toArray 4 (0, 0)) := hblk
    rw [metB_length] at hj
    exact ⟨by rw [metB_get]; simp [World.cell?, hg, hj], by simp [World.frozen?, hg]⟩)
  have hb1 : Below w2.heap.size w2 w1 := Below.of_grown hgrow (Nat.le_refl _) (fun k e => by cases e)
  have HB1 := hid hb1
  have q0 := (Kept.of_below hb1) _ _ k0
  have q1 := (Kept.of_below hb1) _ _ k1
  have q2 := (Kept.of_below hb1) _ _ k2
  have hM : w.heap.size < w2.heap.size := cell_lt k0
  obtain ⟨M, hMe⟩ : ∃ M, w2.heap.size = M := ⟨_, rfl⟩
  rw [hMe] at hM hrow0
  have HB2 : Hid (Below M w2 w1) := hid (by rw [← hMe]; exact hb1)
  have HM : Hid (w2.heap.size = M) := hid hMe
  have HB0 : Hid (Below w.heap.size w w1) := hid (H02.out.trans (hb1.mono H02.out.size))
  rw [hMe]
  have Q0 := hid q0
  have Q1 := hid q1
  have Q2 := hid q2
  have hKw : Hid (Kept w w1) := hid (Kept.of_below HB0.out)
  have hlow : Hid (∀ (g o : Nat) (v : Value), w.cell? ⟨g, o, none⟩ = some v → g < M) := hid (fun g o v h => by have h1 : g < w.heap.size := cell_lt h; omega)
  clear hown hgrow hblk hb1 k0 k1 k2 q0 q1 q2 hMe HB1
  go_wp2_with fail
  go_loopg [8] (H.length) (fun g i wr => ∃ (k : Nat) (ks : List Int), k ≤ H.length ∧ g = H.length - k ∧ i = .int .i64 k ∧ Hid (MetTo b H (-1) k ks) ∧ Hid (RowAt Value.bool wr M (metB b ks)) ∧ Hid (Below M w1 wr))
  case atStart => exact ⟨0, [], by omega, by omega, rfl, hid ⟨by simp, by simp, by simp⟩, hrow0, hid (Below.refl _ _)⟩
  case round =>
    obtain ⟨k, ks, hk, hgk, rfl, hmet, hmk, hbw⟩ := hrel
    have x1 := (hbw.out.cell (p := ⟨w.heap.size, 1, none⟩) hM).trans Q1.out
    have x2 := (hbw.out.cell (p := ⟨w.heap.size, 2, none⟩) hM).trans Q2.out
    have HBR : Hid (Below w.heap.size w wr) := hid (HB0.out.trans (hbw.out.mono (by omega)))
    by_cases hlt : k < H.length
    · obtain ⟨lb, loff, rfl, hlc⟩ := hL0.out (by omega)
      have kw := Kept.of_below HBR.out
      have y0 := kw _ _ (hlc k hlt)
      have i0 : (0 : Int) ≤ k := by omega
      have i1 : (k : Int) < H.length := by omega
      have hx := (rise_iff.1 (of_decide_eq_true HT.out)).2 _ (List.getElem_mem hlt)
      obtain ⟨q, hq⟩ : ∃ q : Nat, H[k] = (q : Int) := ⟨H[k].toNat, by omega⟩
      have hlk0 := hlc k hlt
      rw [hq] at y0 hx hlk0
      have hqn : q < b.fits.length := by rw [HN.out]; omega
      have i2 : (0 : Int) ≤ q := by omega
      have i3 : (q : Int) < b.fits.length := by omega
      have HQ := hid hq
      have HFC : Hid (H[k] ∈ H) := hid (List.getElem_mem hlt)
      obtain ⟨fb, foff, rfl, hfc⟩ := hB0.out.fits (by omega)
      obtain ⟨Aj, cj, f1, f2⟩ := hfc q hqn
      have hlenL := HFI.out.lens _ (List.getElem_mem hqn)
      obtain ⟨L, hL⟩ : ∃ L, L = b.fits[q] := ⟨_, rfl⟩
      rw [← hL] at f1 f2 hlenL
      have HL : Hid (fitOf b.fits q = L) := hid ((fitOf_lt hqn).trans hL.symm)
      have f1' := kw _ _ f1
      have F2 := hid f2
      have LK := hid hlk0
      have FK := hid f1
      clear hlc hfc hL f1 f2 hx hq kw hlk0
      by_cases h0 : L.length = 0
      · have d2 : ((L.length : Int) == 0) = true := beq_iff_eq.2 (by omega)
        have H0 : Hid (L = []) := hid (List.eq_nil_of_length_eq_zero h0)
        clear h0
        go_wp2_with fail
        go_quiet (fail)
        go_wp2_with fail
        go_ret
        refine ⟨ret_bool (crowd_no fun h => (h.fit _ HFC.out).2 ?_).symm, Below.drewN' HBR.out _⟩
        rw [HQ.out, Int.toNat_natCast, HL.out, H0.out]
      have d2 : ((L.length : Int) == 0) = false := beq_eq_false_iff_ne.2 (by omega)
      have H0 : Hid (L ≠ []) := hid (fun e => h0 (by rw [e]; rfl))
      clear h0
      go_wp2_with fail
      go_quiet (fail)
      go_wp2_with fail
      have HBN : Hid (Below M w1 (wr.drewN nq)) := hid (Below.drewN' hbw.out _)
      have HMN : Hid (RowAt Value.bool (wr.drewN nq) M (metB b ks)) := hid hmk.out.dn
      obtain ⟨wn, hwn⟩ : ∃ wn, wr.drewN nq = wn := ⟨_, rfl⟩
      rw [hwn] at HBN HMN ⊢
      clear f1' y0 hwn x1 x2 HBR hmk hbw
      go_loopg [9] (L.length) (fun g i wr => ∃ (j : Nat) (ks : List Int), j ≤ L.length ∧ g = L.length - j ∧ i = .int .i64 j ∧ Hid (MetIn b H k L j ks) ∧ Hid (RowAt Value.bool wr M (metB b ks)) ∧ Hid (Below M w1 wr))
      case atStart => exact ⟨0, ks, by omega, by omega, rfl, hid hmet.out.inner, HMN, HBN⟩
      case round =>
        obtain ⟨j, ks', hj, hgj, rfl, hmi, hmk, hbw⟩ := hrel
        have x2 := (hbw.out.cell (p := ⟨w.heap.size, 2, none⟩) hM).trans Q2.out
        have HBR : Hid (Below w.heap.size w wr) := hid (HB0.out.trans (hbw.out.mono (by omega)))
        have kw := Kept.of_below HBR.out
        have y0 := kw _ _ LK.out
        have f1' := kw _ _ FK.out
        by_cases hlj : j < L.length
        · obtain ⟨mb, moff, rfl, hmc⟩ := F2.out (by omega)
          have y1 := kw _ _ (hmc j hlj)
          have i4 : (0 : Int) ≤ j := by omega
          have i5 : (j : Int) < L.length := by omega
          have d5 : decide ((j : Int) < L.length) = true := decide_eq_true i5
          have hin := HG.out.inside q L[j] (by rw [HL.out]; exact List.getElem_mem hlj)
          rw [pieces_length] at hin
          obtain ⟨p, hp⟩ : ∃ p : Nat, L[j] = (p : Int) := ⟨L[j].toNat, by omega⟩
          rw [hp] at y1 hin
          have hpn : p < b.slots.length := by omega
          have i6 : (0 : Int) ≤ p := by omega
          have i7 : (p : Int) < b.slots.length := by omega
          have HP := hid hp
          have hpm : p < (metB b ks').length := by rw [metB_length]; exact hpn
          have g1 := (hmk.out p hpm).1
          have g2 := (hmk.out p hpm).2
          rw [metB_get hpm] at g1
          have HMI := hid (hmi.out.new hlj HP.out hpn)
          clear hmc hp hin hpm kw
          go_wp2_with fail
          go_quiet (fail)
          go_wp2_with fail
          go_region
          go_wp2_with fail
          go_roundg (L.length - (j + 1))
          case measure => omega
          case rel => exact ⟨j + 1, ks' ++ [(p : Int)], by omega, rfl, by go_num, HMI, hid (by rw [← metB_set]; exact RowAt.set hmk.out.dn p true), hid (Below.setCell (p := ⟨M, p, none⟩) (Below.drewN' hbw.out _) (Nat.le_refl _) _)⟩
        · obtain rfl : j = L.length := by omega
          have d5 : decide ((L.length : Int) < L.length) = false := decide_eq_false (by omega)
          have HMO := hid (MetIn.outer hmet.out hmi.out hlt (by rw [HQ.out, Int.toNat_natCast]; exact HL.out) H0.out (by rw [HQ.out]; omega))
          go_wp2_with fail
          go_quiet (fail)
          go_wp2_with fail
          go_roundg (H.length - (k + 1))
          case measure => omega
          case rel => exact ⟨k + 1, ks', by omega, rfl, by go_num, HMO, hid hmk.out.dn, hid (Below.drewN' hbw.out _)⟩
    · obtain rfl : k = H.length := by omega
      have hiff := met_take (s := s) hmet.out (of_decide_eq_true HT.out)
      have HIFF := hid hiff
      clear hlt hgk hk hiff
      go_wp2_with fail
      go_loopg [10, 11] (b.slots.length) (fun g r i wx => wx = wr ∧ ∃ k : Nat, k ≤ b.slots.length ∧ g = b.slots.length - k ∧ i = .int .i64 k ∧ r = .int .i64 (metTo b ks s k))
      case atStart => exact ⟨rfl, 0, by omega, by omega, rfl, rfl⟩
      case round =>
        obtain ⟨rfl, k, hk, hgk, rfl, rfl⟩ := hrel
        have hfew := metTo_few HG.out n2 ks s hk
        by_cases hlt : k < b.slots.length
        · obtain ⟨sb, soff, rfl, hsc⟩ := hB0.out.slots (by omega)
          have kw := Kept.of_below HBR.out
          have s2 := kw _ _ (hsc k hlt).2.2
          have hpm : k < (metB b ks).length := by rw [metB_length]; exact hlt
          have g1 := (hmk.out k hpm).1
          rw [metB_get hpm] at g1
          have hp20 := HG.out.few k hlt
          have i0 : (0 : Int) ≤ k := by omega
          have i1 : (k : Int) < b.slots.length := by omega
          have hsucc := metTo_succ (ks := ks) (s := s) hlt
          clear hsc hpm kw
          by_cases hm : (k : Int) ∈ ks
          · rw [decide_eq_true hm] at g1
            rw [if_pos hm] at hsucc
            by_cases hks : (k : Int) = s
            · have d3 : ((k : Int) == s) = true := beq_iff_eq.2 hks
              rw [if_pos hks] at hsucc
              have HSU := hid hsucc
              clear hm hks hsucc
              go_wp2_with fail
              go_roundg (b.slots.length - (k + 1))
              case measure => omega
              case rel => exact ⟨rfl, k + 1, by omega, rfl, by go_num, by rw [HSU.out]; go_num⟩
            · have d3 : ((k : Int) == s) = false := beq_eq_false_iff_ne.2 hks
              rw [if_neg hks] at hsucc
              have HSU := hid hsucc
              clear hm hks hsucc
              go_wp2_with fail
              go_roundg (b.slots.length - (k + 1))
              case measure => omega
              case rel => exact ⟨rfl, k + 1, by omega, rfl, by go_num, by rw [HSU.out]; go_num⟩
          · rw [decide_eq_false hm] at g1
            rw [if_neg hm] at hsucc
            have HSU := hid hsucc
            clear hm hsucc
            go_wp2_with fail
            go_roundg (b.slots.length - (k + 1))
            case measure => omega
            case rel => exact ⟨rfl, k + 1, by omega, rfl, by go_num, by rw [HSU.out]; go_num⟩
        · obtain rfl : k = b.slots.length := by omega
          clear hlt hgk hk
          by_cases hpos : metTo b ks s b.slots.length < H.length
          · have HP := hid hpos
            go_wp2_with fail
            go_ret
            refine ⟨ret_bool ?_, HBR.out⟩
            rw [crowd_yes (HIFF.out.1 (by have h1 := HP.out; unfold metTo at h1; unfold metRoom; omega))]
          · have HP : Hid (¬ metTo b ks s b.slots.length < H.length) := hid hpos
            go_wp2_with fail
            go_ret
            refine ⟨ret_bool ?_, HBR.out⟩
            rw [crowd_no (fun h => by have h1 := HIFF.out.2 h; have h2 := HP.out; unfold metTo at h2; unfold metRoom at h1; omega)]
end Go.Proofs.Ytpmdjbjnihhjeaa
