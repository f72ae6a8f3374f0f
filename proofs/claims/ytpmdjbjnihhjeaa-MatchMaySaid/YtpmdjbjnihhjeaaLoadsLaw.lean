/- MatchLoads, walked: the law's function returns true. -/
import Derived.Test.YtpmdjbjnihhjeaaNobody
import Derived.Test.YtpmdjbjnihhjeaaFew
namespace Go.Proofs.Ytpmdjbjnihhjeaa
open Go.RowKit

theorem as_range {b : Board} {a : List Int} (hw : Inside b.fits (pieces b.slots).length) (h : b.As a) {i : Nat} (hf : fitOf b.fits i ≠ []) : 0 ≤ hasOf a i ∧ hasOf a i < (pieces b.slots).length := hw i _ (h.fit i hf)
theorem nobody_count (b : Board) (a : List Int) (hw : Inside b.fits (pieces b.slots).length) (h : b.As a) : ∀ k : Nat,
    sumTo (fun i => if 0 ≤ hasOf a i ∧ hasOf a i < (pieces b.slots).length ∧ (fun _ : Int => true) (hasOf a i) = true then (1 : Int) else 0) k = k - (nobodyTo b k).length
  | 0 => rfl
  | k + 1 => by
    rw [sumTo, nobody_count b a hw h k, nobodyTo_succ, List.length_append]
    by_cases e : fitOf b.fits k = []
    · have hn : hasOf a k = -1 := h.nobody k e
      rw [if_neg (by omega), if_pos e]
      simp only [List.length_cons, List.length_nil]
      omega
    · have hn := as_range hw h e
      rw [if_pos ⟨hn.1, hn.2, rfl⟩, if_neg e]
      simp only [List.length_nil]
      omega
/-- The loads of all slots together are as many as the finds that have one. -/
theorem as_total {b : Board} {a : List Int} (hw : Inside b.fits (pieces b.slots).length) (h : b.As a) : sumTo (fun s => loadOf a (s : Int)) b.slots.length = (b.fits.length : Int) - b.nobody.length := by
  have h1 := sum_swap a (fun _ => true) (pieces b.slots).length
  rw [h.len, nobody_count b a hw h] at h1
  simp only [if_true] at h1
  rw [pieces_length] at h1
  rw [h1]
  unfold Board.nobody
  rw [nats_length]
theorem total_bound {a : List Int} {k : Nat} : 0 ≤ sumTo (fun s => loadOf a (s : Int)) k ∧ sumTo (fun s => loadOf a (s : Int)) k ≤ k * a.length := by
  induction k with
  | zero => simp [sumTo]
  | succ k ih =>
    have h0 := loadOf_nonneg a k
    have h1 : loadOf a k ≤ a.length := by unfold loadOf; have := List.count_le_length (a := (k : Int)) (l := a); omega
    simp only [sumTo]
    have : ((k + 1 : Nat) : Int) * a.length = k * a.length + a.length := by rw [Int.natCast_add, Int.add_mul]; simp
    omega
theorem askOf_mk {b : Board} {s : Int} (h : b.check = 0) (h0 : 0 ≤ s) (h1 : s < b.slots.length) : askOf b 0 s true false = 0 := by
  have : inB s 0 (b.slots.length - 1) = true := by simp [inB]; omega
  unfold askOf
  rw [if_pos h, this]
  rfl
theorem LoadIs.sane {b : Board} {s low high : Int} (hs : 0 ≤ s) (h1 : s < (pieces b.slots).length) (h : LoadIs b s low high) : 0 ≤ low ∧ low ≤ high ∧ high ≤ roomOf (pieces b.slots) s := by
  obtain ⟨a, ha, e⟩ := h.lowIs
  obtain ⟨c, hc, e2⟩ := h.highIs
  have := loadOf_nonneg a s
  have := h.all a ha
  have := hc.loads s hs h1
  omega
theorem load_len {a : List Int} {s : Int} : loadOf a s ≤ a.length := by unfold loadOf; have := List.count_le_length (a := s) (l := a); omega

/-- What a law of two results comes to. -/
def LawPost (w : World) (e : Ending) (w' : World) : Prop := e = .returned (.bool true) ∧ Below w.heap.size w w'
theorem matched_post {w0 w : World} (h : Below w0.heap.size w0 w) : ∀ e w', (e = .returned (.bool true) ∧ Below w.heap.size w w') → LawPost w0 e w' := fun _ _ ⟨a, b⟩ => ⟨a, h.trans (b.mono h.size)⟩
theorem ret_true {t : Bool} (h : t = true) : Ending.returned (.bool t) = .returned (.bool true) := by rw [h]
theorem sl_at {w : World} {As : Option Addr} {ss : List Slot} (h : SlotsAt w As ss) {s : Int} (h0 : 0 ≤ s) (h1 : s < ss.length) : ∃ sb off, As = some ⟨sb, off, none⟩ ∧ w.cell? ⟨sb, off + s.toNat * 3 + 2, none⟩ = some (.int .i64 (roomOf (pieces ss) s)) := by
  obtain ⟨sb, off, rfl, hc⟩ := h (by omega)
  refine ⟨sb, off, rfl, ?_⟩
  have h2 := (hc s.toNat (by omega)).2.2
  rw [h2]
  have h3 : roomOf (pieces ss) ((s.toNat : Nat) : Int) = ss[s.toNat].pieces := by
    rw [roomOf_lt (by rw [pieces_length]; omega)]
    simp [pieces]
  rw [show ((s.toNat : Nat) : Int) = s by omega] at h3
  rw [h3]

set_option maxRecDepth 100000 in
set_option maxHeartbeats 16000000 in
theorem matchLoads_any (b : Board) (Af As At Al : Option Addr) (cf cs ct cl : Nat) (l : List Int) (s : Int) (w : World) (hB : BoardAt w Af As At b) (hL : IntsAt w Al l) :
    Calls Try.prog 6 #[.agg #[.slice Af b.finds.length cf, .slice As b.slots.length cs, .slice At b.fits.length ct], .slice Al l.length cl, .int .i64 s] w (LawPost w) := by
  obtain ⟨W, hW, c0, c1, c2, hbW, hz⟩ := box3 w (.slice Af b.finds.length cf) (.slice As b.slots.length cs) (.slice At b.fits.length ct) 26
  have HBW := hid hbW
  have hBW := hid (hB.kept (Kept.of_below hbW))
  have hLW := hid (hL.kept (Kept.of_below hbW))
  clear hz hbW hB hL
  go_enter Try.func6, Try.ntmps6
  go_wp2_with fail
  refine (wide_any b Af As At cf cs ct W hBW.out).mono ?_
  rintro e w1 ⟨t, rfl, hb1, hw1⟩
  have k0 := (Kept.of_below hb1) _ _ c0
  have k1 := (Kept.of_below hb1) _ _ c1
  have k2 := (Kept.of_below hb1) _ _ c2
  have HB1 := hid (HBW.out.trans (hb1.mono HBW.out.size))
  have hB1 := hid (hBW.out.kept (Kept.of_below hb1))
  have hL1 := hid (hLW.out.kept (Kept.of_below hb1))
  clear hb1 hW c0 c1 c2 hBW hLW HBW
  rcases t with _ | _
  case false =>
    go_wp2_with fail
    refine (matched_true w1).mono ?_
    rintro e w2 ⟨rfl, hb2⟩
    have HB2 := hid hb2
    clear hb2
    go_wp2_with fail
    go_ret
    exact ⟨rfl, HB1.out.trans (HB2.out.mono HB1.out.size)⟩
  have HWI := hid (hw1 rfl)
  clear hw1
  by_cases hl80 : l.length ≤ 80
  case neg =>
    have : 80 < l.length := by omega
    go_wp2_with fail
    refine (matched_true w1).mono ?_
    rintro e w2 ⟨rfl, hb2⟩
    have HB2 := hid hb2
    clear hb2
    go_wp2_with fail
    go_ret
    exact ⟨rfl, HB1.out.trans (HB2.out.mono HB1.out.size)⟩
  have n1 := HWI.out.1.1
  have n2 := HWI.out.1.2.1
  have n3 := HWI.out.1.2.2.1
  go_wp2_with fail
  refine (load_of_any b Af As At cf cs ct w1 HWI.out.1 hB1.out s).mono ?_
  rintro e w2 ⟨hb2, hpost⟩
  have m0 := (Kept.of_below hb2) _ _ k0
  have m1 := (Kept.of_below hb2) _ _ k1
  have m2 := (Kept.of_below hb2) _ _ k2
  have HB2 := hid (HB1.out.trans (hb2.mono HB1.out.size))
  have hB2 := hid (hB1.out.kept (Kept.of_below hb2))
  have hL2 := hid (hL1.out.kept (Kept.of_below hb2))
  clear hb2 k0 k1 k2 hB1 hL1 HB1
  rcases hpost with ⟨hne, rfl⟩ | ⟨hask, hno, rfl⟩ | ⟨hask, hex, low, high, hlow, rfl⟩
  · have d1 : (askOf b 0 s true false != 0) = true := by rw [bne_iff_ne]; exact hne
    have HN := hid hne
    clear hne
    go_wp2_with fail
    refine (matched_true w2).mono ?_
    rintro e w3 ⟨rfl, hb3⟩
    have HB3 := hid hb3
    clear hb3
    go_wp2_with fail
    go_ret
    exact ⟨rfl, HB2.out.trans (HB3.out.mono HB2.out.size)⟩
  · have HN := hid hno
    clear hno hask
    go_wp2_with fail
    refine (matched_true w2).mono ?_
    rintro e w3 ⟨rfl, hb3⟩
    have HB3 := hid hb3
    clear hb3
    go_wp2_with fail
    go_ret
    exact ⟨rfl, HB2.out.trans (HB3.out.mono HB2.out.size)⟩
  obtain ⟨hc, s0, s1⟩ := askOf_slot hask
  have HC := hid hc
  have HG := hid (Board.check_good hc)
  have HFI := hid (Board.check_fine HWI.out.1 hc)
  have s1' : s < (pieces b.slots).length := by rw [pieces_length]; exact s1
  obtain ⟨l0, l1, l2⟩ := LoadIs.sane s0 s1' hlow
  have HLOW := hid hlow
  obtain ⟨sb, soff, rfl, hpc⟩ := sl_at hB2.out.slots s0 s1
  have l0' : ¬ low < 0 := by omega
  have l1' : ¬ high < low := by omega
  have l2' : ¬ roomOf (pieces b.slots) s < high := by omega
  have HEX := hid hex
  clear hc hask hlow hex
  go_wp2_with fail
  refine (meets_any b Af (some ⟨sb, soff, none⟩) At Al cf cs ct cl l w2 HWI.out.1 hl80 hB2.out hL2.out).mono ?_
  rintro e w3 ⟨hb3, hpost⟩
  rcases hpost with ⟨hne, _⟩ | ⟨_, rfl⟩
  · exact absurd HC.out hne
  have k0 := (Kept.of_below hb3) _ _ m0
  have k1 := (Kept.of_below hb3) _ _ m1
  have k2 := (Kept.of_below hb3) _ _ m2
  have HB3 := hid (HB2.out.trans (hb3.mono HB2.out.size))
  have hB3 := hid (hB2.out.kept (Kept.of_below hb3))
  have hL3 := hid (hL2.out.kept (Kept.of_below hb3))
  clear hb3 m0 m1 m2 hB2 hL2 HB2 hpc l0' l1' l2'
  go_wp2_with fail
  go_loopg [12, 13] (l.length) (fun g n i wr => wr = w3 ∧ ∃ k : Nat, k ≤ l.length ∧ g = l.length - k ∧ i = .int .i64 k ∧ n = .int .i64 (loadOf (l.take k) s))
  case atStart => exact ⟨rfl, 0, by omega, by omega, rfl, rfl⟩
  case round =>
    obtain ⟨rfl, k, hk, hgk, rfl, rfl⟩ := hrel
    by_cases hlt : k < l.length
    · obtain ⟨lb, loff, rfl, hlc⟩ := hL3.out (by omega)
      have hlk := hlc k hlt
      have hsn := load_snoc hlt s
      have hlen := load_take_len l k s
      have i0 : (0 : Int) ≤ k := by omega
      have i1 : (k : Int) < l.length := by omega
      clear hlc
      by_cases he : l[k] = s
      · have d1 : (l[k] == s) = true := beq_iff_eq.2 he
        rw [if_pos he] at hsn
        have HSN := hid hsn
        clear he hsn
        go_wp2_with fail
        go_roundg (l.length - (k + 1))
        case measure => omega
        case rel => exact ⟨rfl, k + 1, by omega, rfl, by go_num, by rw [HSN.out]⟩
      · have d1 : (l[k] == s) = false := beq_eq_false_iff_ne.2 he
        rw [if_neg he] at hsn
        have HSN := hid hsn
        clear he hsn
        go_wp2_with fail
        go_roundg (l.length - (k + 1))
        case measure => omega
        case rel => exact ⟨rfl, k + 1, by omega, rfl, by go_num, by rw [HSN.out, Int.add_zero]⟩
    · obtain rfl : k = l.length := by omega
      rw [List.take_length]
      have hbnd : 0 ≤ loadOf l s ∧ loadOf l s ≤ l.length := ⟨loadOf_nonneg _ _, load_len⟩
      have hheld : asB b l = true → ¬ loadOf l s < low ∧ ¬ high < loadOf l s := fun h => by
        have := HLOW.out.all l (asB_true.1 h)
        omega
      clear hlt hgk hk
      rcases et : asB b l with _ | _
      case' true =>
        have hheld1 := (hheld et).1
        have hheld2 := (hheld et).2
      all_goals
        clear hheld et
        go_wp2_with fail
        refine (assign_any b Af (some ⟨sb, soff, none⟩) At cf cs ct wr HWI.out.1 hB3.out).mono ?_
        rintro e w4 ⟨hb4, hpost⟩
        rcases hpost with ⟨hne, _⟩ | ⟨_, hno, _⟩ | ⟨_, Aa, ca, a, hfirst, rfl, hA4⟩
        · exact absurd HC.out hne
        · exact absurd HEX.out hno
        have HAS := hid hfirst.is
        have HAL : Hid (a.length = b.fits.length) := hid hfirst.is.len
        have hal : a.length ≤ 70 := by rw [HAL.out]; exact n3
        have m0 := (Kept.of_below hb4) _ _ k0
        have m1 := (Kept.of_below hb4) _ _ k1
        have m2 := (Kept.of_below hb4) _ _ k2
        have HB4 := hid (HB3.out.trans (hb4.mono HB3.out.size))
        have hB4 := hid (hB3.out.kept (Kept.of_below hb4))
        have hA4 := hid hA4
        clear hb4 k0 k1 k2 hB3 HB3 hL3 hfirst
        go_wp2_with fail
        go_loopg [17, 18] (b.slots.length) (fun g tot i wr => ∃ k : Nat, k ≤ b.slots.length ∧ g = b.slots.length - k ∧ i = .int .i64 k ∧ tot = .int .i64 (sumTo (fun s => loadOf a (s : Int)) k) ∧ Hid (Below w4.heap.size w4 wr))
        case atStart => exact ⟨0, by omega, by omega, rfl, rfl, hid (Below.refl _ _)⟩
        case round =>
          obtain ⟨k, hk, hgk, rfl, rfl, hbw⟩ := hrel
          have kw := Kept.of_below hbw.out
          have x0 := kw _ _ m0
          have x1 := kw _ _ m1
          have x2 := kw _ _ m2
          by_cases hlt : k < b.slots.length
          · have HBx := hid (hB4.out.kept kw)
            have hAx := hid (hA4.out.kept kw)
            clear kw
            go_wp2_with fail
            refine (load_of_any b Af (some ⟨sb, soff, none⟩) At cf cs ct wr HWI.out.1 HBx.out (k : Int)).mono ?_
            rintro e w5 ⟨hb5, hpost⟩
            have hask : askOf b 0 (k : Int) true false = 0 := askOf_mk HC.out (by omega) (by omega)
            rcases hpost with ⟨hne, _⟩ | ⟨_, hno, _⟩ | ⟨_, _, lo, hi, hlow, rfl⟩
            · exact absurd hask hne
            · exact absurd HEX.out hno
            have hsl : (k : Int) < (pieces b.slots).length := by rw [pieces_length]; omega
            have hall := hlow.all a HAS.out
            have HB5 := hid (hbw.out.trans (hb5.mono hbw.out.size))
            have hA5 := hid (hAx.out.kept (Kept.of_below hb5))
            have y1 := (Kept.of_below hb5) _ _ x1
            clear hb5 hlow hask hAx HBx x0 x1 x2
            go_wp2_with fail
            go_loopg [22, 23] (a.length) (fun g n i wr => wr = w5 ∧ ∃ j : Nat, j ≤ a.length ∧ g = a.length - j ∧ i = .int .i64 j ∧ n = .int .i64 (loadOf (a.take j) (k : Int)))
            case atStart => exact ⟨rfl, 0, by omega, by omega, rfl, rfl⟩
            case round =>
              obtain ⟨rfl, j, hj, hgj, rfl, rfl⟩ := hrel
              by_cases hlj : j < a.length
              · obtain ⟨lb, loff, rfl, hlc⟩ := hA5.out (by omega)
                have hlk := hlc j hlj
                have hsn := load_snoc hlj (k : Int)
                have hlen := load_take_len a j (k : Int)
                have i0 : (0 : Int) ≤ j := by omega
                have i1 : (j : Int) < a.length := by omega
                clear hlc
                by_cases he : a[j] = (k : Int)
                · have d1 : (a[j] == (k : Int)) = true := beq_iff_eq.2 he
                  rw [if_pos he] at hsn
                  have HSN := hid hsn
                  clear he hsn
                  go_wp2_with fail
                  go_roundg (a.length - (j + 1))
                  case measure => omega
                  case rel => exact ⟨rfl, j + 1, by omega, rfl, by go_num, by rw [HSN.out]⟩
                · have d1 : (a[j] == (k : Int)) = false := beq_eq_false_iff_ne.2 he
                  rw [if_neg he] at hsn
                  have HSN := hid hsn
                  clear he hsn
                  go_wp2_with fail
                  go_roundg (a.length - (j + 1))
                  case measure => omega
                  case rel => exact ⟨rfl, j + 1, by omega, rfl, by go_num, by rw [HSN.out, Int.add_zero]⟩
              · obtain rfl : j = a.length := by omega
                rw [List.take_length]
                have hb1 : ¬ loadOf a (k : Int) < lo := by omega
                have hb2 : ¬ hi < loadOf a (k : Int) := by omega
                have hb3 : 0 ≤ loadOf a (k : Int) ∧ loadOf a (k : Int) ≤ a.length := ⟨loadOf_nonneg _ _, load_len⟩
                have hb4 := @total_bound a k
                have hb5 : (k : Int) * a.length ≤ 210 * 70 := Int.mul_le_mul (by omega) (by omega) (by omega) (by omega)
                clear hlj hgj hj
                go_wp2_with fail
                go_roundg (b.slots.length - (k + 1))
                case measure => omega
                case rel => exact ⟨k + 1, by omega, rfl, by go_num, rfl, HB5⟩
          · obtain rfl : k = b.slots.length := by omega
            have HBx := hid (hB4.out.kept kw)
            clear hlt hgk hk kw
            go_wp2_with fail
            refine (nobody_any b Af (some ⟨sb, soff, none⟩) At cf cs ct wr HWI.out.1 HBx.out).mono ?_
            rintro e w6 ⟨hb6, hpost⟩
            rcases hpost with ⟨hne, _⟩ | ⟨_, An, cn, rfl, _⟩
            · exact absurd HC.out hne
            have y0 := (Kept.of_below hb6) _ _ x0
            have HB6 := hid ((HB4.out.trans (hbw.out.mono HB4.out.size)).trans (hb6.mono (HB4.out.trans (hbw.out.mono HB4.out.size)).size))
            clear hb6 HBx x0 x1 x2
            go_wp2_with fail
            refine (matched_true w6).mono ?_
            rintro e w7 ⟨rfl, hb7⟩
            have z0 := (Kept.of_below hb7) _ _ y0
            have HB7 := hid (HB6.out.trans (hb7.mono HB6.out.size))
            have hnl : b.nobody.length ≤ b.fits.length := by unfold Board.nobody; rw [nats_length]; exact nobodyTo_len b _
            clear hb7 y0
            go_wp2_with fail
            go_ret
            refine ⟨ret_true ?_, HB7.out⟩
            rw [as_total HG.out.inside HAS.out, HFI.out.fits]
            simp
end Go.Proofs.Ytpmdjbjnihhjeaa
