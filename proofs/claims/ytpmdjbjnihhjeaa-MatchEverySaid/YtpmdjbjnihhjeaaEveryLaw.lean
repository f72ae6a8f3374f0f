/- MatchEvery, walked: the law's function returns true. -/
import Derived.Test.YtpmdjbjnihhjeaaWithin
import Derived.Test.YtpmdjbjnihhjeaaEitherLaw
import Derived.Test.YtpmdjbjnihhjeaaRefDeny
namespace Go.Proofs.Ytpmdjbjnihhjeaa
open Go.RowKit

theorem chances_get {b : Board} {i : Nat} (h : i < b.chances.length) : b.chances[i] = chancesOf b.fits (pieces b.slots) i := by simp [Board.chances, chancesTo]
theorem chances_length (b : Board) : b.chances.length = b.finds.length := chancesTo_length _ _
theorem must_length (b : Board) : b.must.length = b.finds.length := by unfold Board.must; rw [List.length_map, chances_length]
theorem must_get {b : Board} {i : Nat} (h : i < b.must.length) : b.must[i] = lone (chancesOf b.fits (pieces b.slots) i) := by simp [Board.must, Board.chances, chancesTo]
/-- What an assignment gives a find is one of its chances. -/
theorem as_chance {b : Board} {a : List Int} (h : b.As a) {i : Nat} (hf : fitOf b.fits i ≠ []) : hasOf a i ∈ chancesOf b.fits (pieces b.slots) i := by
  unfold chancesOf
  rw [List.mem_filter]
  exact ⟨h.fit i hf, canB_true.2 ⟨a, h, rfl⟩⟩
theorem lone_as {b : Board} {a : List Int} (h : b.As a) {i : Nat} (hl : 0 ≤ lone (chancesOf b.fits (pieces b.slots) i)) : hasOf a i = lone (chancesOf b.fits (pieces b.slots) i) := by
  by_cases h1 : (chancesOf b.fits (pieces b.slots) i).length = 1
  · have hf : fitOf b.fits i ≠ [] := fun e => by
      have := chancesOf_len (fits := b.fits) (room := pieces b.slots) (f := i)
      rw [e] at this
      simp only [List.length_nil] at this
      omega
    have hm := as_chance h hf
    obtain ⟨x, hx⟩ := List.length_eq_one_iff.1 h1
    rw [hx] at hm ⊢
    simpa [lone] using hm
  · rw [lone_not h1] at hl; omega
theorem as_chance_pos {b : Board} {a : List Int} (h : b.As a) {i : Nat} (h0 : 0 ≤ hasOf a i) : hasOf a i ∈ chancesOf b.fits (pieces b.slots) i :=
  as_chance h (fun e => by have := h.nobody i e; omega)
theorem can_chance {b : Board} {f : Nat} {s : Int} (hs : 0 ≤ s) : canB b.fits (pieces b.slots) f s = decide (s ∈ chancesOf b.fits (pieces b.slots) f) := by
  refine bool_eq ?_
  rw [decide_eq_true_eq]
  unfold chancesOf
  rw [List.mem_filter]
  refine ⟨fun h => ⟨?_, h⟩, fun h => h.2⟩
  obtain ⟨a, ha, e⟩ := canB_true.1 h
  have hf : fitOf b.fits f ≠ [] := fun e2 => by have := ha.nobody f e2; omega
  have := ha.fit f hf
  rwa [e] at this

theorem ask_find_mk {b : Board} {fn : Nat} (h : b.check = 0) (h0 : fn < b.finds.length) : askOf b (fn : Int) 0 false true = 0 := by
  have h1 : inB (fn : Int) 0 (b.finds.length - 1) = true := by simp [inB]; omega
  unfold askOf
  rw [if_pos h, h1]
  rfl

theorem Calls.quietly2 {P : Program} {f : FuncId} {args : Array Value} {w : World} {m n : Nat} {v : Value}
    (h : Calls P f args (w.drewN (m + n)) fun e w' => e = .returned v ∧ Drew (w.drewN (m + n)) w') : Calls P f args (w.drewN (m + n)) fun e w'' => e = .returned v ∧ ∃ n, w'' = w.drewN (m + n) :=
  h.mono fun _ _ ⟨he, q, hq⟩ => ⟨he, n + q, by rw [hq, World.drewN_drewN, Nat.add_assoc]⟩

def allIn (L l2 : List Int) : Bool := L.all (fun x => decide (x ∈ l2))
theorem within_step {L l2 : List Int} {k : Nat} {q r : Bool} (h : k < L.length) (hq : q = (decide (0 < L.length) && allIn (L.take k) l2)) (hr : decide (L[k] ∈ l2) = r) :
    (q && r) = (decide (0 < L.length) && allIn (L.take (k + 1)) l2) := by
  rw [hq, ← hr, Bool.and_assoc]
  congr 1
  unfold allIn
  rw [List.take_succ_eq_append_getElem h, List.all_append]
  simp
theorem within_all {b : Board} {f : Nat} {l2 : List Int} : withinB b f l2 = (decide (0 < (chancesOf b.fits (pieces b.slots) f).length) && allIn (chancesOf b.fits (pieces b.slots) f) l2) := by
  unfold withinB
  congr 1
  apply Bool.eq_iff_iff.2
  unfold allIn
  rw [decide_eq_true_eq, List.all_eq_true]
  exact ⟨fun h x hx => decide_eq_true (h x hx), fun h x hx => of_decide_eq_true (h x hx)⟩

set_option maxRecDepth 100000 in
set_option maxHeartbeats 32000000 in
theorem matchEvery_any (b : Board) (Af As At A1 A2 : Option Addr) (cf cs ct cl c2 : Nat) (f : Int) (l1 l2 : List Int) (w : World) (hB : BoardAt w Af As At b) (hL1 : IntsAt w A1 l1) (hL2 : IntsAt w A2 l2) :
    Calls Try.prog 8 #[.agg #[.slice Af b.finds.length cf, .slice As b.slots.length cs, .slice At b.fits.length ct], .slice A1 l1.length cl, .slice A2 l2.length c2, .int .i64 f] w (LawPost w) := by
  obtain ⟨W, hW, b0, b1, b2, hbW, hz⟩ := box3 w (.slice Af b.finds.length cf) (.slice As b.slots.length cs) (.slice At b.fits.length ct) 26
  have HBW := hid hbW
  have hBW := hid (hB.kept (Kept.of_below hbW))
  have hB0 := hid hB
  have hL10 := hid hL1
  have hL20 := hid hL2
  clear hz hbW hB hL1 hL2
  go_enter Try.func8, Try.ntmps8
  go_wp2_with fail
  refine (wide_any b Af As At cf cs ct W hBW.out).mono ?_
  rintro e w1 ⟨t, rfl, hb1, hw1⟩
  have k0 := (Kept.of_below hb1) _ _ b0
  have k1 := (Kept.of_below hb1) _ _ b1
  have k2 := (Kept.of_below hb1) _ _ b2
  have HB1 := hid (HBW.out.trans (hb1.mono HBW.out.size))
  clear hb1 hW b0 b1 b2 hBW HBW
  rcases t with _ | _
  case false =>
    go_wp2_with fail
    refine (matched_true w1).mono ?_
    rintro e w2 ⟨rfl, hb2⟩
    have HB2 := hid hb2
    clear hb2
    go_wp2_with fail
    go_ret
    exact ⟨rfl, HB1.out.trans (HB2.out.mono HB1.out.size)⟩
  have HS := hid (hw1 rfl).1
  clear hw1
  by_cases q1 : l1.length ≤ 80
  case neg =>
    have : 80 < l1.length := by omega
    go_wp2_with fail
    refine (matched_true w1).mono ?_
    rintro e w2 ⟨rfl, hb2⟩
    have HB2 := hid hb2
    clear hb2
    go_wp2_with fail
    go_ret
    exact ⟨rfl, HB1.out.trans (HB2.out.mono HB1.out.size)⟩
  by_cases q2 : l2.length ≤ 50
  case neg =>
    have : 50 < l2.length := by omega
    go_wp2_with fail
    refine (matched_true w1).mono ?_
    rintro e w2 ⟨rfl, hb2⟩
    have HB2 := hid hb2
    clear hb2
    go_wp2_with fail
    go_ret
    exact ⟨rfl, HB1.out.trans (HB2.out.mono HB1.out.size)⟩
  go_wp2_with fail
  refine (everyChance_any b Af As At cf cs ct w1 HS.out (hB0.out.kept (Kept.of_below HB1.out))).mono ?_
  rintro e w2 ⟨hb2, hpost⟩
  have m0 := (Kept.of_below hb2) _ _ k0
  have m1 := (Kept.of_below hb2) _ _ k1
  have m2 := (Kept.of_below hb2) _ _ k2
  have HB2 := hid (HB1.out.trans (hb2.mono HB1.out.size))
  clear hb2 k0 k1 k2 HB1
  have hmust := must_any b Af As At cf cs ct w2 HS.out (hB0.out.kept (Kept.of_below HB2.out))
  have HMU := hid hmust
  clear hmust
  rcases hpost with ⟨hne, rfl⟩ | ⟨hc, hno, rfl⟩ | ⟨hc, hex, AL, cL, us, rfl, hown, hli⟩
  · have d1 : (b.check != 0) = true := bne_iff_ne.2 hne
    have HC := hid hne
    clear hne
    go_wp2_with fail
    refine HMU.out.mono ?_
    rintro e w3 ⟨hb3, hpost⟩
    rcases hpost with ⟨_, rfl⟩ | ⟨h0, _⟩ | ⟨h0, _⟩
    rotate_left
    · exact absurd h0 HC.out
    · exact absurd h0 HC.out
    have HB3 := hid (HB2.out.trans (hb3.mono HB2.out.size))
    clear hb3
    go_wp2_with fail
    refine (matched_true w3).mono ?_
    rintro e w4 ⟨rfl, hb4⟩
    have HB4 := hid (HB3.out.trans (hb4.mono HB3.out.size))
    clear hb4
    go_wp2_with fail
    go_ret
    exact ⟨rfl, HB4.out⟩
  · have HC := hid hc
    have HNO := hid hno
    clear hc hno
    go_wp2_with fail
    refine HMU.out.mono ?_
    rintro e w3 ⟨hb3, hpost⟩
    rcases hpost with ⟨h0, _⟩ | ⟨_, _, rfl⟩ | ⟨_, h0, _⟩
    · exact absurd HC.out h0
    rotate_left
    · exact absurd h0 HNO.out
    have HB3 := hid (HB2.out.trans (hb3.mono HB2.out.size))
    clear hb3
    go_wp2_with fail
    refine (matched_true w3).mono ?_
    rintro e w4 ⟨rfl, hb4⟩
    have HB4 := hid (HB3.out.trans (hb4.mono HB3.out.size))
    clear hb4
    go_wp2_with fail
    go_ret
    exact ⟨rfl, HB4.out⟩
  have HC := hid hc
  have HEX := hid hex
  have HG := hid (Board.check_good hc)
  have HFI := hid (Board.check_fine HS.out hc)
  have HLS := hid (hli.fits hown)
  have n0 := HS.out.1
  have n1 := HS.out.1
  have n2 := HS.out.2.1
  clear hc hex hown hli
  go_wp2_with fail
  refine HMU.out.mono ?_
  rintro e w3 ⟨hb3, hpost⟩
  rcases hpost with ⟨h0, _⟩ | ⟨_, h0, _⟩ | ⟨_, _, AM, cM, rfl, hM⟩
  · exact absurd HC.out h0
  · exact absurd HEX.out h0
  have k0 := (Kept.of_below hb3) _ _ m0
  have k1 := (Kept.of_below hb3) _ _ m1
  have k2 := (Kept.of_below hb3) _ _ m2
  have HB3 := hid (HB2.out.trans (hb3.mono HB2.out.size))
  have HLS3 := hid (HLS.out.kept (Kept.of_below hb3))
  have HM3 := hid hM
  clear hb3 m0 m1 m2 hM HMU HLS
  obtain ⟨t, ht⟩ : ∃ t, asB b l1 = t := ⟨_, rfl⟩
  have HT := hid ht
  go_wp2_with fail
  refine (meets_t b Af As At A1 cf cs ct cl l1 w3 HS.out HC.out q1 (hB0.out.kept (Kept.of_below HB3.out)) (hL10.out.kept (Kept.of_below HB3.out)) ht).mono ?_
  rintro e w4 ⟨rfl, hb4⟩
  have m0 := (Kept.of_below hb4) _ _ k0
  have m1 := (Kept.of_below hb4) _ _ k1
  have m2 := (Kept.of_below hb4) _ _ k2
  have HB4 := hid (HB3.out.trans (hb4.mono HB3.out.size))
  have HLS4 := hid (HLS3.out.kept (Kept.of_below hb4))
  have HM4 := hid (HM3.out.kept (Kept.of_below hb4))
  have hcl := chances_length b
  have hml := must_length b
  have d1 : ((b.chances.length : Int) != b.finds.length) = false := by rw [hcl]; simp
  have d2 : ((b.must.length : Int) != b.finds.length) = false := by rw [hml]; simp
  have HCL := hid hcl
  have HML := hid hml
  clear hb4 k0 k1 k2 ht hcl hml HLS3 HM3
  go_wp2_with fail
  go_loopg [15] (b.chances.length) (fun g i wr => ∃ k : Nat, k ≤ b.chances.length ∧ g = b.chances.length - k ∧ i = .int .i64 k ∧ Hid (Below w4.heap.size w4 wr))
  case atStart => exact ⟨0, by omega, by omega, rfl, hid (Below.refl _ _)⟩
  case round =>
    obtain ⟨k, hk, hgk, rfl, hbw⟩ := hrel
    have kw := Kept.of_below hbw.out
    have hc70 : b.chances.length ≤ 70 := by rw [HCL.out]; exact n0
    by_cases hlt : k < b.chances.length
    · obtain ⟨ab, aoff, rfl, hc⟩ := HLS4.out (by omega)
      obtain ⟨Aj, cj, f1, f2⟩ := hc k hlt
      have hkm : k < b.must.length := by rw [HML.out]; have := HCL.out; omega
      obtain ⟨mb, moff, rfl, hm⟩ := HM4.out (by omega)
      have y1 := hm k hkm
      rw [must_get] at y1
      rw [chances_get] at f1 f2
      obtain ⟨L, hL⟩ : ∃ L, chancesOf b.fits (pieces b.slots) k = L := ⟨_, rfl⟩
      rw [hL] at y1 f1 f2
      have HL := hid hL
      have g1 := kw _ _ f1
      have g2 := hid (f2.kept kw)
      have y2 := kw _ _ y1
      have i0 : (0 : Int) ≤ k := by omega
      have i1 : (k : Int) < b.chances.length := by omega
      have i2 : (k : Int) < b.must.length := by omega
      have hlen : L.length ≤ 1000 := by rw [← hL]; exact Nat.le_trans chancesOf_len (by rw [fitOf_lt (show k < b.fits.length by rw [HFI.out.fits, ← HCL.out]; exact hlt)]; exact HFI.out.lens _ (List.getElem_mem _))
      have HLN : Hid (L.length ≤ 9223372036854775807) := hid (by omega)
      have hkl : Hid (t = true → k < l1.length ∧ ∀ h : k < l1.length, (0 ≤ lone L → l1[k] = lone L) ∧ (0 ≤ l1[k] → l1[k] ∈ L)) := hid (fun e => by
        have ha := asB_true.1 (HT.out.trans e)
        have h1 : k < l1.length := by rw [ha.len, HFI.out.fits, ← HCL.out]; exact hlt
        refine ⟨h1, fun h => ⟨fun h2 => ?_, fun h2 => ?_⟩⟩
        · rw [← hasOf_lt h, ← hL]; exact lone_as ha (by rw [hL]; exact h2)
        · rw [← hasOf_lt h] at h2 ⊢; rw [← hL]; exact as_chance_pos ha h2)
      have hpos : Hid (∀ x ∈ L, 0 ≤ x) := hid (fun x hx => by
        rw [← hL] at hx
        unfold chancesOf at hx
        exact (HG.out.inside k x (List.mem_filter.1 hx).1).1)
      clear hc hm y1 f1 f2 hL hkm kw
      by_cases h1 : L.length = 1
      · have d3 : ((L.length : Int) == 1) = true := beq_iff_eq.2 (by omega)
        obtain ⟨ac, aoc, rfl, hcc⟩ := g2.out (by omega)
        have hl0 : 0 < L.length := by omega
        have f3 := hcc 0 hl0
        rw [Nat.add_zero, ← lone_one h1] at f3
        have hx0 : 0 ≤ lone L := by rw [lone_one h1]; exact hpos.out _ (List.getElem_mem hl0)
        have hxm : Hid (lone L ∈ L) := hid (by rw [lone_one h1]; exact List.getElem_mem hl0)
        obtain ⟨x, hx⟩ : ∃ x, lone L = x := ⟨_, rfl⟩
        have H1 := hid h1
        have HX := hid hx
        rw [hx] at f3 hx0 y2
        have d4 : (x != x) = false := by simp
        have i4 : (0 : Int) < L.length := by omega
        have d5 : ((L.length : Int) != 1) = false := by rw [bne_eq_false_iff_eq]; omega
        clear hx h1 hcc
        rcases t with _ | _
        · go_wp2_with fail
          go_quiet (fail)
          go_wp2_with fail
          go_quiet (fail)
          go_wp2_with fail
          go_roundg (b.chances.length - (k + 1))
          case measure => omega
          case rel => exact ⟨k + 1, by omega, rfl, by go_num, hid (Below.drewN' hbw.out _)⟩
        · obtain ⟨hk1, hk2⟩ := hkl.out rfl
          have hk3 := (hk2 hk1).1 (by rw [HX.out]; exact hx0)
          rw [HX.out] at hk3
          obtain ⟨nb, noff, rfl, hn⟩ := (hL10.out.kept (Kept.of_below (HB4.out.trans (hbw.out.mono HB4.out.size)))) (by omega)
          have y3 := hn k hk1
          rw [hk3] at y3
          have i3 : (k : Int) < l1.length := by omega
          have HIN : Hid (decide (x ∈ L) = true) := hid (decide_eq_true (by rw [← HX.out]; exact hxm.out))
          clear hn hk2 hk3
          go_wp2_with fail
          go_quiet (fail)
          go_wp2_with fail
          go_quiet ((go_at_call 33; refine Calls.quietly2 (has_q (some ⟨ac, aoc, none⟩) cj L x _ HLN.out g2.out.dn HIN.out)))
          go_wp2_with fail
          go_roundg (b.chances.length - (k + 1))
          case measure => omega
          case rel => exact ⟨k + 1, by omega, rfl, by go_num, hid (Below.drewN' hbw.out _)⟩
      · have d3 : ((L.length : Int) == 1) = false := beq_eq_false_iff_ne.2 (by omega)
        have d5 : ((L.length : Int) != 1) = true := by rw [bne_iff_ne]; omega
        rw [lone_not h1] at y2
        have H1 := hid h1
        clear h1
        rcases t with _ | _
        · go_wp2_with fail
          go_quiet (fail)
          go_wp2_with fail
          go_quiet (fail)
          go_wp2_with fail
          go_roundg (b.chances.length - (k + 1))
          case measure => omega
          case rel => exact ⟨k + 1, by omega, rfl, by go_num, hid (Below.drewN' hbw.out _)⟩
        · obtain ⟨hk1, hk2⟩ := hkl.out rfl
          obtain ⟨nb, noff, rfl, hn⟩ := (hL10.out.kept (Kept.of_below (HB4.out.trans (hbw.out.mono HB4.out.size)))) (by omega)
          have y3 := hn k hk1
          have i3 : (k : Int) < l1.length := by omega
          have hk4 := (hk2 hk1).2
          obtain ⟨x, hx⟩ : ∃ x, l1[k] = x := ⟨_, rfl⟩
          rw [hx] at y3 hk4
          clear hn hk2 hx
          by_cases hx0 : 0 ≤ x
          · have HIN : Hid (decide (x ∈ L) = true) := hid (decide_eq_true (hk4 hx0))
            obtain ⟨ac, aoc, rfl, _⟩ := g2.out (List.length_pos_of_mem (hk4 hx0))
            clear hk4
            go_wp2_with fail
            go_quiet (fail)
            go_wp2_with fail
            go_quiet ((go_at_call 33; refine Calls.quietly2 (has_q (some ⟨ac, aoc, none⟩) cj L x _ HLN.out g2.out.dn HIN.out)))
            go_wp2_with fail
            go_roundg (b.chances.length - (k + 1))
            case measure => omega
            case rel => exact ⟨k + 1, by omega, rfl, by go_num, hid (Below.drewN' hbw.out _)⟩
          · have d6 : decide ((0 : Int) ≤ x) = false := decide_eq_false hx0
            have hx1 : x < 0 := by omega
            clear hk4
            go_wp2_with fail
            go_quiet (fail)
            go_wp2_with fail
            go_quiet (fail)
            go_wp2_with fail
            go_roundg (b.chances.length - (k + 1))
            case measure => omega
            case rel => exact ⟨k + 1, by omega, rfl, by go_num, hid (Below.drewN' hbw.out _)⟩
    · obtain rfl : k = b.chances.length := by omega
      obtain ⟨w5, e5⟩ : ∃ w5, w5 = wr := ⟨_, rfl⟩
      subst e5
      have kw := Kept.of_below hbw.out
      have x0 := kw _ _ m0
      have x1 := kw _ _ m1
      have x2 := kw _ _ m2
      have HLSx := hid (HLS4.out.kept kw)
      have HBx := hid (HB4.out.trans (hbw.out.mono HB4.out.size))
      clear hlt hgk hk kw hbw m0 m1 m2 HLS4 HM4 HT HB4 HB3 HB2
      by_cases f0 : 0 ≤ f
      case neg =>
        have f0' : f < 0 := by omega
        go_wp2_with fail
        refine (matched_true w5).mono ?_
        rintro e w6 ⟨rfl, hb6⟩
        have HB6 := hid (HBx.out.trans (hb6.mono HBx.out.size))
        clear hb6
        go_wp2_with fail
        go_ret
        exact ⟨rfl, HB6.out⟩
      have f0' : ¬ f < 0 := by omega
      by_cases f1 : f < b.chances.length
      case neg =>
        have f1' : (b.chances.length : Int) ≤ f := by omega
        go_wp2_with fail
        refine (matched_true w5).mono ?_
        rintro e w6 ⟨rfl, hb6⟩
        have HB6 := hid (HBx.out.trans (hb6.mono HBx.out.size))
        clear hb6
        go_wp2_with fail
        go_ret
        exact ⟨rfl, HB6.out⟩
      have f1' : ¬ (b.chances.length : Int) ≤ f := by omega
      obtain ⟨fn, rfl⟩ := Int.eq_ofNat_of_zero_le f0
      obtain ⟨ab, aoff, rfl, hc⟩ := HLSx.out (by omega)
      have hfn : fn < b.chances.length := by omega
      obtain ⟨Aj, cj, f2, f3⟩ := hc fn hfn
      have hff : Hid (fn < b.finds.length) := hid (by rw [← HCL.out]; exact hfn)
      rw [chances_get] at f2 f3
      obtain ⟨L, hL⟩ : ∃ L, chancesOf b.fits (pieces b.slots) fn = L := ⟨_, rfl⟩
      rw [hL] at f2 f3
      have hlen : L.length ≤ 1000 := by rw [← hL]; exact Nat.le_trans chancesOf_len (by rw [fitOf_lt (show fn < b.fits.length by rw [HFI.out.fits]; exact hff.out)]; exact HFI.out.lens _ (List.getElem_mem _))
      have HL := hid hL
      have g2 := hid f3
      clear hc f3 hL HLSx
      go_wp2_with fail
      go_loopg [16] (b.slots.length) (fun g i wq => ∃ k : Nat, k ≤ b.slots.length ∧ g = b.slots.length - k ∧ i = .int .i64 k ∧ Hid (Below w5.heap.size w5 wq))
      case atStart => exact ⟨0, by omega, by omega, rfl, hid (Below.refl _ _)⟩
      case round =>
        obtain ⟨k, hk, hgk, rfl, hbw⟩ := hrel
        have kw := Kept.of_below hbw.out
        have y0 := kw _ _ x0
        have y1 := kw _ _ x1
        have y2 := kw _ _ x2
        have y3 := kw _ _ f2
        have HBr := hid (HBx.out.trans (hbw.out.mono HBx.out.size))
        have g3 := hid (g2.out.kept kw)
        clear kw
        by_cases hlt : k < b.slots.length
        · have hask := hid (askOf_in (b := b) (f := (fn : Int)) (s := (k : Int)) HC.out (by omega) (by have := hff.out; omega) (by omega) (by omega))
          go_wp2_with fail
          refine (may_any b Af As At cf cs ct wr HS.out (hB0.out.kept (Kept.of_below HBr.out)) (fn : Int) (k : Int)).mono ?_
          rintro e w6 ⟨hb6, hpost⟩
          rcases hpost with ⟨hne, _⟩ | ⟨_, hno, _⟩ | ⟨_, _, rfl⟩
          · exact absurd hask.out hne
          · exact absurd HEX.out hno
          rw [Int.toNat_natCast, can_chance (by omega), HL.out]
          obtain ⟨t2, ht2⟩ : ∃ t, decide ((k : Int) ∈ L) = t := ⟨_, rfl⟩
          rw [ht2]
          have HT2 := hid ht2
          have kw := Kept.of_below hb6
          have z1 := kw _ _ y1
          have z3 := kw _ _ y3
          have HB6 := hid (hbw.out.trans (hb6.mono hbw.out.size))
          have g4 := hid (g3.out.kept kw)
          clear kw hb6 ht2 y0 y1 y2 y3 g3
          rcases t2 with _ | _
          all_goals
            go_wp2_with fail
            refine (has_t _ _ _ _ _ (by omega) g4.out HT2.out).mono ?_
            rintro e w7 ⟨rfl, rfl⟩
            go_wp2_with fail
            go_roundg (b.slots.length - (k + 1))
            case measure => omega
            case rel => exact ⟨k + 1, by omega, rfl, by go_num, HB6⟩
        · obtain rfl : k = b.slots.length := by omega
          clear hlt hgk hk
          go_wp2_with fail
          refine (within_any b Af As At A2 cf cs ct c2 (fn : Int) l2 wr HS.out (by omega) (hB0.out.kept (Kept.of_below HBr.out)) (hL20.out.kept (Kept.of_below HBr.out))).mono ?_
          rintro e w6 ⟨hb6, hpost⟩
          have z3 := (Kept.of_below hb6) _ _ y3
          have HB6 := hid (HBr.out.trans (hb6.mono HBr.out.size))
          have g4 := hid (g3.out.kept (Kept.of_below hb6))
          have g5 := hid (hL20.out.kept (Kept.of_below HB6.out))
          clear hb6 y0 y1 y2 y3 g3 x0 x1 x2 f2
          rcases hpost with ⟨hne, _⟩ | ⟨_, _, rfl⟩ | ⟨_, _, hno, _⟩ | ⟨_, _, _, rfl⟩
          · exact absurd (ask_find_mk HC.out hff.out) hne
          · go_wp2_with fail
            refine (matched_true w6).mono ?_
            rintro e w7 ⟨rfl, hb7⟩
            have HB7 := hid (HB6.out.trans (hb7.mono HB6.out.size))
            clear hb7
            go_wp2_with fail
            go_ret
            exact ⟨rfl, HB7.out⟩
          · exact absurd HEX.out hno
          rw [Int.toNat_natCast]
          obtain ⟨q0, hq0⟩ : ∃ q, withinB b fn l2 = q := ⟨_, rfl⟩
          rw [hq0]
          have HQ0 : Hid (q0 = (decide (0 < L.length) && allIn L l2)) := hid (by rw [← hq0, within_all, HL.out])
          clear hq0
          go_wp2_with fail
          go_loopg [21, 22] (L.length) (fun g y i wq => ∃ (k : Nat) (q : Bool), k ≤ L.length ∧ g = L.length - k ∧ i = .int .i64 k ∧ y = .bool q ∧ Hid (q = (decide (0 < L.length) && allIn (L.take k) l2)) ∧ wq = w6)
          case atStart => exact ⟨0, _, by omega, by omega, rfl, rfl, hid (by simp [allIn]), rfl⟩
          case round =>
            obtain ⟨k, q, hk, hgk, rfl, rfl, hq, rfl⟩ := hrel
            by_cases hlt : k < L.length
            · obtain ⟨ac, aoc, rfl, hcc⟩ := g4.out (by omega)
              have f5 := hcc k hlt
              obtain ⟨r, hr⟩ : ∃ r, decide (L[k] ∈ l2) = r := ⟨_, rfl⟩
              have hs := hid (within_step hlt hq.out hr)
              have HR := hid hr
              have i0 : (0 : Int) ≤ k := by omega
              have i1 : (k : Int) < L.length := by omega
              clear hcc hr
              rcases q with _ | _
              · go_wp2_with fail
                go_roundg (L.length - (k + 1))
                case measure => omega
                case rel => exact ⟨k + 1, false, by omega, rfl, by go_num, rfl, hs, rfl⟩
              · go_wp2_with fail
                refine (has_t A2 c2 l2 _ _ (by omega) g5.out HR.out).mono ?_
                rintro e w7 ⟨rfl, rfl⟩
                go_wp2_with fail
                go_roundg (L.length - (k + 1))
                case measure => omega
                case rel => exact ⟨k + 1, r, by omega, rfl, by go_num, rfl, hs, rfl⟩
            · obtain rfl : k = L.length := by omega
              have hqq : q = q0 := by rw [hq.out, HQ0.out, List.take_length]
              subst hqq
              clear hlt hgk hk
              rcases q with _ | _
              all_goals
                go_wp2_with fail
                refine (matched_true wr).mono ?_
                rintro e w8 ⟨rfl, hb8⟩
                have HB8 := hid (HB6.out.trans (hb8.mono HB6.out.size))
                clear hb8
                go_wp2_with fail
                go_ret
                exact ⟨rfl, HB8.out⟩
end Go.Proofs.Ytpmdjbjnihhjeaa
