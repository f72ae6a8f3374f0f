/- MatchMay, walked: the law's function returns true. -/
import Derived.Test.YtpmdjbjnihhjeaaMayUni
set_option linter.unusedSimpArgs false
namespace Go.Proofs.Ytpmdjbjnihhjeaa
open Go.RowKit
set_option maxRecDepth 100000 in
set_option maxHeartbeats 64000000 in
theorem matchMay_any (b : Board) (Af As At Al : Option Addr) (cf cs ct cl : Nat) (f s : Int) (l : List Int) (w : World) (hB : BoardAt w Af As At b) (hL : IntsAt w Al l) :
    Calls Try.prog 5 #[.agg #[.slice Af b.finds.length cf, .slice As b.slots.length cs, .slice At b.fits.length ct], .int .i64 f, .int .i64 s, .slice Al l.length cl] w (LawPost w) := by
  obtain ⟨W, hW, b0, b1, b2, hbW, hz⟩ := box3 w (.slice Af b.finds.length cf) (.slice As b.slots.length cs) (.slice At b.fits.length ct) 26
  have HBW := hid hbW
  have hBW := hid (hB.kept (Kept.of_below hbW))
  have hB0 := hid hB
  have hL0 := hid hL
  clear hz hbW hB hL
  go_enter Try.func5, Try.ntmps5
  go_wp2_with fail
  refine (few_any b Af As At cf cs ct W hBW.out).mono ?_
  rintro e w1 ⟨t, rfl, hb1, hw1⟩
  have k10 := (Kept.of_below hb1) _ _ b0
  have k11 := (Kept.of_below hb1) _ _ b1
  have k12 := (Kept.of_below hb1) _ _ b2
  have HB1 := hid (HBW.out.trans (hb1.mono HBW.out.size))
  clear hb1 hW b0 b1 b2 hBW HBW
  rcases t with _ | _
  case false =>
    go_wp2_with fail
    refine (matched_true w1).mono ?_
    rintro e w2 ⟨rfl, hb2⟩
    have HB2 := hid hb2
    clear hb2
    go_wp2_with fail
    go_ret
    exact ⟨rfl, HB1.out.trans (HB2.out.mono HB1.out.size)⟩
  have HFEW := hid (hw1 rfl)
  have HS := hid (hw1 rfl).1.small
  clear hw1
  by_cases q1 : l.length ≤ 20
  case neg =>
    have : 20 < l.length := by omega
    go_wp2_with fail
    refine (matched_true w1).mono ?_
    rintro e w2 ⟨rfl, hb2⟩
    have HB2 := hid hb2
    clear hb2
    go_wp2_with fail
    go_ret
    exact ⟨rfl, HB1.out.trans (HB2.out.mono HB1.out.size)⟩
  have HSZ : Hid (b.check = 0 → b.finds.length ≤ 6 ∧ b.slots.length ≤ 12) := hid fun hc => by
    have := Board.check_sizes hc
    have := HFEW.out.2
    omega
  have n1 := HS.out.1
  have n2 := HS.out.2.1
  have n3 := HS.out.2.2.1
  obtain ⟨K, hK⟩ : ∃ K, errOf b (askOf b f s false false) = K := ⟨_, rfl⟩
  obtain ⟨K2, hK2⟩ : ∃ K, errW b f l = K := ⟨_, rfl⟩
  have HK := hid hK
  have HK2 := hid hK2
  clear hK hK2
  go_wp2_with fail
  refine (may_u b Af As At cf cs ct w1 HS.out (hB0.out.kept (Kept.of_below HB1.out)) f s HK.out).mono ?_
  rintro e w2 ⟨hb2, m, rfl, hm1, hm2⟩
  have HM1 := hid hm1
  have HM2 := hid hm2
  clear hm1 hm2
  have HB2 := hid (HB1.out.trans (hb2.mono HB1.out.size))
  have k20 := (Kept.of_below hb2) _ _ k10
  have k21 := (Kept.of_below hb2) _ _ k11
  have k22 := (Kept.of_below hb2) _ _ k12
  clear hb2 k10 k11 k12 
  go_wp2_with fail
  refine (through_u b Af As At cf cs ct w2 HS.out (hB0.out.kept (Kept.of_below HB2.out)) f s HK.out).mono ?_
  rintro e w3 ⟨hb3, A3, c3, t, m3, rfl, hA3, ht70, ht1, ht2⟩
  have HT_3 := hid hA3
  have HT1 := hid ht1
  have HT2 := hid ht2
  clear hA3 ht1 ht2
  have HB3 := hid (HB2.out.trans (hb3.mono HB2.out.size))
  have k30 := (Kept.of_below hb3) _ _ k20
  have k31 := (Kept.of_below hb3) _ _ k21
  have k32 := (Kept.of_below hb3) _ _ k22
  clear hb3 k20 k21 k22 
  go_wp2_with fail
  refine (refuse_u b Af As At cf cs ct w3 HS.out (hB0.out.kept (Kept.of_below HB3.out)) f s (fun h h2 => ask_in2' h h2) HK.out).mono ?_
  rintro e w4 ⟨hb4, A4, c4, r, m4, rfl, hA4, hr80, hr1, hr2⟩
  have HR_4 := hid hA4
  have HR1 := hid hr1
  have HR2 := hid hr2
  clear hA4 hr1 hr2
  have HB4 := hid (HB3.out.trans (hb4.mono HB3.out.size))
  have k40 := (Kept.of_below hb4) _ _ k30
  have k41 := (Kept.of_below hb4) _ _ k31
  have k42 := (Kept.of_below hb4) _ _ k32
  have HT_4 := hid (HT_3.out.kept (Kept.of_below hb4))
  clear hb4 k30 k31 k32 HT_3
  go_wp2_with fail
  refine (within_u b Af As At Al cf cs ct cl f l w4 HS.out (by omega) (hB0.out.kept (Kept.of_below HB4.out)) (hL0.out.kept (Kept.of_below HB4.out)) HK2.out).mono ?_
  rintro e w5 ⟨hb5, m5, rfl, hw1, hw2⟩
  have HW1 := hid hw1
  have HW2 := hid hw2
  clear hw1 hw2
  have HB5 := hid (HB4.out.trans (hb5.mono HB4.out.size))
  have k50 := (Kept.of_below hb5) _ _ k40
  have k51 := (Kept.of_below hb5) _ _ k41
  have k52 := (Kept.of_below hb5) _ _ k42
  have HT_5 := hid (HT_4.out.kept (Kept.of_below hb5))
  have HR_5 := hid (HR_4.out.kept (Kept.of_below hb5))
  clear hb5 k40 k41 k42 HT_4 HR_4
  by_cases hc : b.check = 0
  case neg =>
    have d1 : (b.check != 0) = true := bne_iff_ne.2 hc
    have eK : K = b.check := by rw [← HK.out, askOf_bad hc, errOf_ask hc]
    have eK2 : K2 = b.check := by rw [← HK2.out, errW_ask (by rw [askOf_bad hc]; exact hc), askOf_bad hc]
    subst eK
    subst eK2
    obtain rfl := HM1.out hc
    obtain ⟨rfl, rfl⟩ := HT1.out hc
    obtain ⟨rfl, rfl⟩ := HR1.out hc
    obtain rfl := HW1.out hc
    have HC := hid hc
    clear hc
    go_wp2_with fail
    refine (refCheck_any Af As At cf cs ct b w5 HS.out (hB0.out.kept (Kept.of_below HB5.out))).mono ?_
    rintro e w6 ⟨rfl, hb6⟩
    have HB6 := hid (HB5.out.trans (hb6.mono HB5.out.size))
    have k60 := (Kept.of_below hb6) _ _ k50
    have k61 := (Kept.of_below hb6) _ _ k51
    have k62 := (Kept.of_below hb6) _ _ k52
    clear hb6 k50 k51 k52 
    go_wp2_with fail
    refine (matched_true w6).mono ?_
    rintro e w7 ⟨rfl, hb7⟩
    have HB7 := hid (HB6.out.trans (hb7.mono HB6.out.size))
    clear hb7
    go_wp2_with fail
    go_ret
    exact ⟨ret_true (by simp), HB7.out⟩
  case pos =>
    have HC := hid hc
    have HG := hid (Board.check_good hc)
    have HFI := hid (Board.check_fine HS.out hc)
    have h6 := (HSZ.out hc).1
    have h12 := (HSZ.out hc).2
    clear hc
    go_wp2_with fail
    refine (refCheck_t Af As At cf cs ct b w5 HS.out (hB0.out.kept (Kept.of_below HB5.out)) HC.out).mono ?_
    rintro e w6 ⟨rfl, hb6⟩
    have HB6 := hid (HB5.out.trans (hb6.mono HB5.out.size))
    have k60 := (Kept.of_below hb6) _ _ k50
    have k61 := (Kept.of_below hb6) _ _ k51
    have k62 := (Kept.of_below hb6) _ _ k52
    have HT_6 := hid (HT_5.out.kept (Kept.of_below hb6))
    have HR_6 := hid (HR_5.out.kept (Kept.of_below hb6))
    clear hb6 k50 k51 k52 HT_5 HR_5
    go_wp2_with fail
    refine (allOf_any b Af As At cf cs ct w6 HG.out h6 h12 HFEW.out.1.2.2.2 (hB0.out.kept (Kept.of_below HB6.out))).mono ?_
    rintro e w7 ⟨hb7, AL, cL, us, rfl, hown, hli⟩
    have HA_7 := hid (hli.fits hown)
    clear hown hli
    have HB7 := hid (HB6.out.trans (hb7.mono HB6.out.size))
    have k70 := (Kept.of_below hb7) _ _ k60
    have k71 := (Kept.of_below hb7) _ _ k61
    have k72 := (Kept.of_below hb7) _ _ k62
    have HT_7 := hid (HT_6.out.kept (Kept.of_below hb7))
    have HR_7 := hid (HR_6.out.kept (Kept.of_below hb7))
    clear hb7 k60 k61 k62 HT_6 HR_6
    have hall := Board.all_some HG.out
    obtain ⟨N, hN⟩ : ∃ N, b.all.length = N := ⟨_, rfl⟩
    rw [hN] at hall ⊢
    have HN := hid hN
    have HALL := hid hall
    clear hall hN
    have hex : (N = 0 ∧ ¬ ∃ a, b.As a) ∨ (0 < N ∧ ∃ a, b.As a) := by
      rcases Nat.eq_zero_or_pos N with h | h
      · exact .inl ⟨h, fun hx => by have := HALL.out.2 hx; omega⟩
      · exact .inr ⟨h, HALL.out.1 h⟩
    have K70 := hid k70
    have K71 := hid k71
    have K72 := hid k72
    rcases hex with ⟨hn, hx⟩ | ⟨hn, hx⟩
    · have d0 : ((N : Int) == 0) = true := beq_iff_eq.2 (by omega)
      have HX := hid hx
      have HN0 := hid hn
      clear hx hn
      go_wp2_with fail
      clear d0 k70 k71 k72
      go_loopg [22, 23] (l.length) (fun g tt i wr => ∃ (k : Nat) (acc : Bool), k ≤ l.length ∧ g = l.length - k ∧ i = .int .i64 k ∧ tt = .bool acc ∧ Hid (acc = decide (RiseTo l 0 ((b.slots.length : Int) - 1) k)) ∧ Hid (Below w7.heap.size w7 wr))
      case atStart => exact ⟨0, true, by omega, by omega, rfl, rfl, hid (by symm; rw [decide_eq_true_iff]; intro j _ h; omega), hid (Below.refl _ _)⟩
      case round =>
        obtain ⟨k, acc, hk, hgk, rfl, rfl, hacc, hbw⟩ := hrel
        have HBw := hid (HB7.out.trans (hbw.out.mono HB7.out.size))
        have x0 := (Kept.of_below hbw.out) _ _ K70.out
        have x1 := (Kept.of_below hbw.out) _ _ K71.out
        have x2 := (Kept.of_below hbw.out) _ _ K72.out
        by_cases hlt : k < l.length
        · as_aux_lemma =>
            obtain ⟨lb, loff, rfl, hlc⟩ := (hL0.out.kept (Kept.of_below HBw.out)) (by omega)
            have hlk := hlc k hlt
            have hlk1 := hlc (k - 1) (by omega)
            have hst := rise_step (m := (b.slots.length : Int) - 1) hlt
            rw [← hacc.out] at hst
            obtain ⟨x, hx⟩ : ∃ x, l[k] = x := ⟨_, rfl⟩
            obtain ⟨y, hy⟩ : ∃ y, l[k - 1] = y := ⟨_, rfl⟩
            rw [hx] at hlk hst
            rw [hy] at hlk1 hst
            have i0 : (0 : Int) ≤ k := by omega
            have i1 : (k : Int) < l.length := by omega
            have HST := hid hst
            clear hlc hst hx hy hacc
            have fin : ∀ (v : Bool) (n : Nat), v = (acc && (decide (0 ≤ x) && (decide (x ≤ (b.slots.length : Int) - 1) && decide (0 < k → y < x)))) → Hid (v = decide (RiseTo l 0 ((b.slots.length : Int) - 1) (k + 1))) ∧ Hid (Below w7.heap.size w7 (wr.drewN n)) := fun v n h => ⟨hid (h.trans HST.out.symm), hid (Below.drewN' hbw.out _)⟩
            have FIN := hid fin
            clear fin HST
            rcases acc with _ | _
            · go_wp2_with fail
              go_quiet (fail)
              go_wp2_with fail
              go_roundg (l.length - (k + 1))
              case measure => omega
              case rel => exact ⟨k + 1, _, by omega, rfl, by go_num, rfl, FIN.out _ _ (by simp)⟩
            by_cases hx0 : 0 ≤ x
            case neg =>
              have g1 : decide (0 ≤ x) = false := decide_eq_false hx0
              go_wp2_with fail
              go_quiet (fail)
              go_wp2_with fail
              go_roundg (l.length - (k + 1))
              case measure => omega
              case rel => exact ⟨k + 1, _, by omega, rfl, by go_num, rfl, FIN.out _ _ (by rw [g1]; simp)⟩
            have g1 : decide (0 ≤ x) = true := decide_eq_true hx0
            by_cases hx1 : x < b.slots.length
            case neg =>
              have g2 : decide (x < (b.slots.length : Int)) = false := decide_eq_false hx1
              go_wp2_with fail
              go_quiet (fail)
              go_wp2_with fail
              go_roundg (l.length - (k + 1))
              case measure => omega
              case rel => exact ⟨k + 1, _, by omega, rfl, by go_num, rfl, FIN.out _ _ (by have : ¬ x ≤ (b.slots.length : Int) - 1 := (by omega); simp [this])⟩
            have g2 : decide (x < (b.slots.length : Int)) = true := decide_eq_true hx1
            by_cases hk0 : k = 0
            · have g3 : ((k : Int) == 0) = true := beq_iff_eq.2 (by omega)
              have HK0 := hid hk0
              clear hk0
              go_wp2_with fail
              go_quiet (fail)
              go_wp2_with fail
              go_roundg (l.length - (k + 1))
              case measure => omega
              case rel => exact ⟨k + 1, _, by omega, rfl, by go_num, rfl, FIN.out _ _ (by have h1 : x ≤ (b.slots.length : Int) - 1 := (by omega); have h2 := HK0.out; simp [hx0, h1, h2])⟩
            have g3 : ((k : Int) == 0) = false := beq_eq_false_iff_ne.2 (by omega)
            have j0 : (0 : Int) ≤ (k : Int) - 1 := by omega
            have j0' : (1 : Int) ≤ (k : Int) := by omega
            have j1 : (k : Int) - 1 < l.length := by omega
            have j2 : ((k : Int) - 1).toNat = k - 1 := by omega
            have j3 : IntKind.i64.wrap ((k : Int) - 1) = (k : Int) - 1 := IntWalk.i64_in _ (by omega)
            rcases hyx : decide (y < x) with _ | _
            all_goals
              have HYX := hid hyx
              have HK0 := hid hk0
              have HX01 := hid hx0
              have HX11 := hid hx1
              go_wp2_with fail
              go_quiet (fail)
              go_wp2_with fail
              clear j2 j3
              go_roundg (l.length - (k + 1))
              case measure => omega
              case rel => exact ⟨k + 1, _, by omega, rfl, by go_num, rfl, FIN.out _ _ (rise_fin HX01.out (by have := HX11.out; omega) HK0.out HYX.out)⟩
        · obtain rfl : k = l.length := by omega

          have HBr := hid (hB0.out.kept (Kept.of_below HBw.out))
          have HACC : Hid (acc = decide (Rise l 0 ((b.slots.length : Int) - 1))) := hid hacc.out
          clear hacc hlt hgk hk
          have hf3 : f < 0 ∨ (¬ f < 0 ∧ (b.finds.length : Int) ≤ f) ∨ (¬ f < 0 ∧ ¬ (b.finds.length : Int) ≤ f) := by omega
          have HF3 := hid hf3
          clear hf3
          rcases HF3.out with q2 | ⟨q2, q3⟩ | ⟨q2, q3⟩

          · have eK : K = 1 := by rw [← HK.out, ask_out2 HC.out (.inl q2)]; exact errOf_ask (by decide)
            have eK2 : K2 = 1 := by rw [← HK2.out, errW_ask (by rw [askW_out HC.out (.inl q2)]; decide), askW_out HC.out (.inl q2)]
            subst eK
            subst eK2
            obtain rfl := HM1.out (by decide)
            obtain ⟨rfl, rfl⟩ := HT1.out (by decide)
            obtain ⟨rfl, rfl⟩ := HR1.out (by decide)
            obtain rfl := HW1.out (by decide)
            clear HF3
            as_aux_lemma =>
              go_wp2_with fail
              refine (matched_true wr).mono ?_
              rintro e w20 ⟨rfl, hb20⟩
              have HB20 := hid (HBw.out.trans (hb20.mono HBw.out.size))
              clear hb20
              go_wp2_with fail
              go_ret
              exact ⟨ret_true (by first | rfl | (simp; done) | (simp; omega)), HB20.out⟩
          · have eK : K = 1 := by rw [← HK.out, ask_out2 HC.out (.inr (.inl q3))]; exact errOf_ask (by decide)
            have eK2 : K2 = 1 := by rw [← HK2.out, errW_ask (by rw [askW_out HC.out (.inr q3)]; decide), askW_out HC.out (.inr q3)]
            subst eK
            subst eK2
            obtain rfl := HM1.out (by decide)
            obtain ⟨rfl, rfl⟩ := HT1.out (by decide)
            obtain ⟨rfl, rfl⟩ := HR1.out (by decide)
            obtain rfl := HW1.out (by decide)
            clear HF3
            as_aux_lemma =>
              go_wp2_with fail
              refine (matched_true wr).mono ?_
              rintro e w20 ⟨rfl, hb20⟩
              have HB20 := hid (HBw.out.trans (hb20.mono HBw.out.size))
              clear hb20
              go_wp2_with fail
              go_ret
              exact ⟨ret_true (by first | rfl | (simp; done) | (simp; omega)), HB20.out⟩
          · obtain ⟨fn, rfl⟩ : ∃ n : Nat, f = (n : Int) := ⟨f.toNat, by omega⟩
            have HFN : Hid (fn < b.finds.length) := hid (by omega)
            clear HF3 q2
            have q2 : ¬ (fn : Int) < 0 := by omega
            have hs3 : s < 0 ∨ (¬ s < 0 ∧ (b.slots.length : Int) ≤ s) ∨ (¬ s < 0 ∧ ¬ (b.slots.length : Int) ≤ s) := by omega
            have HS3 := hid hs3
            clear hs3
            rcases HS3.out with p2 | ⟨p2, p3⟩ | ⟨p2, p3⟩
            · have eK : K = 1 := by rw [← HK.out, ask_out2 HC.out (.inr (.inr (.inl p2)))]; exact errOf_ask (by decide)
              rcases acc with _ | _
              · have eK2 : K2 = 1 := by rw [← HK2.out]; exact errW_bad (askW_in HC.out (by omega) (by have := HFN.out; omega)) (fun h => by have := HACC.out; rw [decide_eq_true h] at this; cases this)
                subst eK
                subst eK2
                obtain rfl := HM1.out (by decide)
                obtain ⟨rfl, rfl⟩ := HT1.out (by decide)
                obtain ⟨rfl, rfl⟩ := HR1.out (by decide)
                obtain rfl := HW1.out (by decide)
                clear HS3
                as_aux_lemma =>
                  go_wp2_with fail
                  refine (matched_true wr).mono ?_
                  rintro e w20 ⟨rfl, hb20⟩
                  have HB20 := hid (HBw.out.trans (hb20.mono HBw.out.size))
                  clear hb20
                  go_wp2_with fail
                  go_ret
                  exact ⟨ret_true (by first | rfl | (simp; done) | (simp; omega)), HB20.out⟩
              · have eK2 : K2 = 40 := by rw [← HK2.out, errW_in (askW_in HC.out (by omega) (by have := HFN.out; omega)) (of_decide_eq_true HACC.out.symm)]; exact errOf_no HX.out
                subst eK
                subst eK2
                obtain rfl := HM1.out (by decide)
                obtain ⟨rfl, rfl⟩ := HT1.out (by decide)
                obtain ⟨rfl, rfl⟩ := HR1.out (by decide)
                obtain rfl := HW1.out (by decide)
                clear HS3
                as_aux_lemma =>
                  go_wp2_with fail
                  refine (matched_true wr).mono ?_
                  rintro e w20 ⟨rfl, hb20⟩
                  have HB20 := hid (HBw.out.trans (hb20.mono HBw.out.size))
                  clear hb20
                  go_wp2_with fail
                  go_ret
                  exact ⟨ret_true (by first | rfl | (simp; done) | (simp; omega)), HB20.out⟩
            · have eK : K = 1 := by rw [← HK.out, ask_out2 HC.out (.inr (.inr (.inr p3)))]; exact errOf_ask (by decide)
              rcases acc with _ | _
              · have eK2 : K2 = 1 := by rw [← HK2.out]; exact errW_bad (askW_in HC.out (by omega) (by have := HFN.out; omega)) (fun h => by have := HACC.out; rw [decide_eq_true h] at this; cases this)
                subst eK
                subst eK2
                obtain rfl := HM1.out (by decide)
                obtain ⟨rfl, rfl⟩ := HT1.out (by decide)
                obtain ⟨rfl, rfl⟩ := HR1.out (by decide)
                obtain rfl := HW1.out (by decide)
                clear HS3
                as_aux_lemma =>
                  go_wp2_with fail
                  refine (matched_true wr).mono ?_
                  rintro e w20 ⟨rfl, hb20⟩
                  have HB20 := hid (HBw.out.trans (hb20.mono HBw.out.size))
                  clear hb20
                  go_wp2_with fail
                  go_ret
                  exact ⟨ret_true (by first | rfl | (simp; done) | (simp; omega)), HB20.out⟩
              · have eK2 : K2 = 40 := by rw [← HK2.out, errW_in (askW_in HC.out (by omega) (by have := HFN.out; omega)) (of_decide_eq_true HACC.out.symm)]; exact errOf_no HX.out
                subst eK
                subst eK2
                obtain rfl := HM1.out (by decide)
                obtain ⟨rfl, rfl⟩ := HT1.out (by decide)
                obtain ⟨rfl, rfl⟩ := HR1.out (by decide)
                obtain rfl := HW1.out (by decide)
                clear HS3
                as_aux_lemma =>
                  go_wp2_with fail
                  refine (matched_true wr).mono ?_
                  rintro e w20 ⟨rfl, hb20⟩
                  have HB20 := hid (HBw.out.trans (hb20.mono HBw.out.size))
                  clear hb20
                  go_wp2_with fail
                  go_ret
                  exact ⟨ret_true (by first | rfl | (simp; done) | (simp; omega)), HB20.out⟩
            · have eK : K = 40 := by rw [← HK.out, ask_in2 HC.out (by omega) (by have := HFN.out; omega) (by omega) (by omega)]; exact errOf_no HX.out
              rcases acc with _ | _
              · have eK2 : K2 = 1 := by rw [← HK2.out]; exact errW_bad (askW_in HC.out (by omega) (by have := HFN.out; omega)) (fun h => by have := HACC.out; rw [decide_eq_true h] at this; cases this)
                subst eK
                subst eK2
                obtain rfl := HM1.out (by decide)
                obtain ⟨rfl, rfl⟩ := HT1.out (by decide)
                obtain ⟨rfl, rfl⟩ := HR1.out (by decide)
                obtain rfl := HW1.out (by decide)
                clear HS3
                as_aux_lemma =>
                  go_wp2_with fail
                  refine (matched_true wr).mono ?_
                  rintro e w20 ⟨rfl, hb20⟩
                  have HB20 := hid (HBw.out.trans (hb20.mono HBw.out.size))
                  clear hb20
                  go_wp2_with fail
                  go_ret
                  exact ⟨ret_true (by first | rfl | (simp; done) | (simp; omega)), HB20.out⟩
              · have eK2 : K2 = 40 := by rw [← HK2.out, errW_in (askW_in HC.out (by omega) (by have := HFN.out; omega)) (of_decide_eq_true HACC.out.symm)]; exact errOf_no HX.out
                subst eK
                subst eK2
                obtain rfl := HM1.out (by decide)
                obtain ⟨rfl, rfl⟩ := HT1.out (by decide)
                obtain ⟨rfl, rfl⟩ := HR1.out (by decide)
                obtain rfl := HW1.out (by decide)
                clear HS3
                as_aux_lemma =>
                  go_wp2_with fail
                  refine (matched_true wr).mono ?_
                  rintro e w20 ⟨rfl, hb20⟩
                  have HB20 := hid (HBw.out.trans (hb20.mono HBw.out.size))
                  clear hb20
                  go_wp2_with fail
                  go_ret
                  exact ⟨ret_true (by first | rfl | (simp; done) | (simp; omega)), HB20.out⟩
    · have d0 : ((N : Int) == 0) = false := beq_eq_false_iff_ne.2 (by omega)
      have HX := hid hx
      have HN0 := hid hn
      clear hx hn
      go_wp2_with fail
      clear d0 k70 k71 k72
      go_loopg [22, 23] (l.length) (fun g tt i wr => ∃ (k : Nat) (acc : Bool), k ≤ l.length ∧ g = l.length - k ∧ i = .int .i64 k ∧ tt = .bool acc ∧ Hid (acc = decide (RiseTo l 0 ((b.slots.length : Int) - 1) k)) ∧ Hid (Below w7.heap.size w7 wr))
      case atStart => exact ⟨0, true, by omega, by omega, rfl, rfl, hid (by symm; rw [decide_eq_true_iff]; intro j _ h; omega), hid (Below.refl _ _)⟩
      case round =>
        obtain ⟨k, acc, hk, hgk, rfl, rfl, hacc, hbw⟩ := hrel
        have HBw := hid (HB7.out.trans (hbw.out.mono HB7.out.size))
        have x0 := (Kept.of_below hbw.out) _ _ K70.out
        have x1 := (Kept.of_below hbw.out) _ _ K71.out
        have x2 := (Kept.of_below hbw.out) _ _ K72.out
        by_cases hlt : k < l.length
        · as_aux_lemma =>
            obtain ⟨lb, loff, rfl, hlc⟩ := (hL0.out.kept (Kept.of_below HBw.out)) (by omega)
            have hlk := hlc k hlt
            have hlk1 := hlc (k - 1) (by omega)
            have hst := rise_step (m := (b.slots.length : Int) - 1) hlt
            rw [← hacc.out] at hst
            obtain ⟨x, hx⟩ : ∃ x, l[k] = x := ⟨_, rfl⟩
            obtain ⟨y, hy⟩ : ∃ y, l[k - 1] = y := ⟨_, rfl⟩
            rw [hx] at hlk hst
            rw [hy] at hlk1 hst
            have i0 : (0 : Int) ≤ k := by omega
            have i1 : (k : Int) < l.length := by omega
            have HST := hid hst
            clear hlc hst hx hy hacc
            have fin : ∀ (v : Bool) (n : Nat), v = (acc && (decide (0 ≤ x) && (decide (x ≤ (b.slots.length : Int) - 1) && decide (0 < k → y < x)))) → Hid (v = decide (RiseTo l 0 ((b.slots.length : Int) - 1) (k + 1))) ∧ Hid (Below w7.heap.size w7 (wr.drewN n)) := fun v n h => ⟨hid (h.trans HST.out.symm), hid (Below.drewN' hbw.out _)⟩
            have FIN := hid fin
            clear fin HST
            rcases acc with _ | _
            · go_wp2_with fail
              go_quiet (fail)
              go_wp2_with fail
              go_roundg (l.length - (k + 1))
              case measure => omega
              case rel => exact ⟨k + 1, _, by omega, rfl, by go_num, rfl, FIN.out _ _ (by simp)⟩
            by_cases hx0 : 0 ≤ x
            case neg =>
              have g1 : decide (0 ≤ x) = false := decide_eq_false hx0
              go_wp2_with fail
              go_quiet (fail)
              go_wp2_with fail
              go_roundg (l.length - (k + 1))
              case measure => omega
              case rel => exact ⟨k + 1, _, by omega, rfl, by go_num, rfl, FIN.out _ _ (by rw [g1]; simp)⟩
            have g1 : decide (0 ≤ x) = true := decide_eq_true hx0
            by_cases hx1 : x < b.slots.length
            case neg =>
              have g2 : decide (x < (b.slots.length : Int)) = false := decide_eq_false hx1
              go_wp2_with fail
              go_quiet (fail)
              go_wp2_with fail
              go_roundg (l.length - (k + 1))
              case measure => omega
              case rel => exact ⟨k + 1, _, by omega, rfl, by go_num, rfl, FIN.out _ _ (by have : ¬ x ≤ (b.slots.length : Int) - 1 := (by omega); simp [this])⟩
            have g2 : decide (x < (b.slots.length : Int)) = true := decide_eq_true hx1
            by_cases hk0 : k = 0
            · have g3 : ((k : Int) == 0) = true := beq_iff_eq.2 (by omega)
              have HK0 := hid hk0
              clear hk0
              go_wp2_with fail
              go_quiet (fail)
              go_wp2_with fail
              go_roundg (l.length - (k + 1))
              case measure => omega
              case rel => exact ⟨k + 1, _, by omega, rfl, by go_num, rfl, FIN.out _ _ (by have h1 : x ≤ (b.slots.length : Int) - 1 := (by omega); have h2 := HK0.out; simp [hx0, h1, h2])⟩
            have g3 : ((k : Int) == 0) = false := beq_eq_false_iff_ne.2 (by omega)
            have j0 : (0 : Int) ≤ (k : Int) - 1 := by omega
            have j0' : (1 : Int) ≤ (k : Int) := by omega
            have j1 : (k : Int) - 1 < l.length := by omega
            have j2 : ((k : Int) - 1).toNat = k - 1 := by omega
            have j3 : IntKind.i64.wrap ((k : Int) - 1) = (k : Int) - 1 := IntWalk.i64_in _ (by omega)
            rcases hyx : decide (y < x) with _ | _
            all_goals
              have HYX := hid hyx
              have HK0 := hid hk0
              have HX01 := hid hx0
              have HX11 := hid hx1
              go_wp2_with fail
              go_quiet (fail)
              go_wp2_with fail
              clear j2 j3
              go_roundg (l.length - (k + 1))
              case measure => omega
              case rel => exact ⟨k + 1, _, by omega, rfl, by go_num, rfl, FIN.out _ _ (rise_fin HX01.out (by have := HX11.out; omega) HK0.out HYX.out)⟩
        · obtain rfl : k = l.length := by omega

          have HBr := hid (hB0.out.kept (Kept.of_below HBw.out))
          have HACC : Hid (acc = decide (Rise l 0 ((b.slots.length : Int) - 1))) := hid hacc.out
          clear hacc hlt hgk hk
          have hf3 : f < 0 ∨ (¬ f < 0 ∧ (b.finds.length : Int) ≤ f) ∨ (¬ f < 0 ∧ ¬ (b.finds.length : Int) ≤ f) := by omega
          have HF3 := hid hf3
          clear hf3
          rcases HF3.out with q2 | ⟨q2, q3⟩ | ⟨q2, q3⟩

          · have eK : K = 1 := by rw [← HK.out, ask_out2 HC.out (.inl q2)]; exact errOf_ask (by decide)
            have eK2 : K2 = 1 := by rw [← HK2.out, errW_ask (by rw [askW_out HC.out (.inl q2)]; decide), askW_out HC.out (.inl q2)]
            subst eK
            subst eK2
            obtain rfl := HM1.out (by decide)
            obtain ⟨rfl, rfl⟩ := HT1.out (by decide)
            obtain ⟨rfl, rfl⟩ := HR1.out (by decide)
            obtain rfl := HW1.out (by decide)
            clear HF3
            as_aux_lemma =>
              go_wp2_with fail
              refine (matched_true wr).mono ?_
              rintro e w20 ⟨rfl, hb20⟩
              have HB20 := hid (HBw.out.trans (hb20.mono HBw.out.size))
              clear hb20
              go_wp2_with fail
              go_ret
              exact ⟨ret_true (by first | rfl | (simp; done) | (simp; omega)), HB20.out⟩
          · have eK : K = 1 := by rw [← HK.out, ask_out2 HC.out (.inr (.inl q3))]; exact errOf_ask (by decide)
            have eK2 : K2 = 1 := by rw [← HK2.out, errW_ask (by rw [askW_out HC.out (.inr q3)]; decide), askW_out HC.out (.inr q3)]
            subst eK
            subst eK2
            obtain rfl := HM1.out (by decide)
            obtain ⟨rfl, rfl⟩ := HT1.out (by decide)
            obtain ⟨rfl, rfl⟩ := HR1.out (by decide)
            obtain rfl := HW1.out (by decide)
            clear HF3
            as_aux_lemma =>
              go_wp2_with fail
              refine (matched_true wr).mono ?_
              rintro e w20 ⟨rfl, hb20⟩
              have HB20 := hid (HBw.out.trans (hb20.mono HBw.out.size))
              clear hb20
              go_wp2_with fail
              go_ret
              exact ⟨ret_true (by first | rfl | (simp; done) | (simp; omega)), HB20.out⟩
          · obtain ⟨fn, rfl⟩ : ∃ n : Nat, f = (n : Int) := ⟨f.toNat, by omega⟩
            have HFN : Hid (fn < b.finds.length) := hid (by omega)
            clear HF3 q2
            have q2 : ¬ (fn : Int) < 0 := by omega
            have hs3 : s < 0 ∨ (¬ s < 0 ∧ (b.slots.length : Int) ≤ s) ∨ (¬ s < 0 ∧ ¬ (b.slots.length : Int) ≤ s) := by omega
            have HS3 := hid hs3
            clear hs3
            obtain ⟨L, hLL⟩ : ∃ L, chancesOf b.fits (pieces b.slots) fn = L := ⟨_, rfl⟩
            have HLL := hid hLL
            have hLn : L.length ≤ 1000 := by
              rw [← hLL]
              refine Nat.le_trans chancesOf_len ?_
              rw [fitOf_lt (show fn < b.fits.length by rw [HFI.out.fits]; exact HFN.out)]
              exact HFI.out.lens _ (List.getElem_mem _)
            have halln : b.all.length ≤ 100000 := by
              have := allTo_count (room := pieces b.slots) (begin := []) (load := List.replicate b.slots.length 0) HFEW.out.1.2.2.2
              have h3 : b.fits.length ≤ 6 := by rw [HFI.out.fits]; exact h6
              exact Nat.le_trans this (Nat.le_trans (Nat.pow_le_pow_right (by omega) h3) (by decide))
            have hal : ∀ l ∈ b.all, l.length = b.finds.length := fun l hl => by
              have := ((Board.all_as HG.out).1 hl).len
              rw [this]; exact HFI.out.fits
            have HCHN : Hid (∀ (w : World), BoardAt w Af As At b → FitsAt w AL b.all → Calls Try.prog 21 #[.agg #[.slice Af b.finds.length cf, .slice As b.slots.length cs, .slice At b.fits.length ct], .slice AL N cL] w (GivenPost b.all b.finds.length b.slots.length w)) := hid fun w _ hA => by
              rw [← HN.out]
              exact refChances_any b.finds.length b.slots.length b.fits.length b.all Af As At AL cf cs ct cL w halln (by omega) (by omega) hal hA
            clear hLL halln hal
            rcases HS3.out with p2 | ⟨p2, p3⟩ | ⟨p2, p3⟩
            · have eK : K = 1 := by rw [← HK.out, ask_out2 HC.out (.inr (.inr (.inl p2)))]; exact errOf_ask (by decide)
              subst eK
              obtain rfl := HM1.out (by decide)
              obtain ⟨rfl, rfl⟩ := HT1.out (by decide)
              obtain ⟨rfl, rfl⟩ := HR1.out (by decide)
              rcases acc with _ | _
              · have eK2 : K2 = 1 := by rw [← HK2.out]; exact errW_bad (askW_in HC.out (by omega) (by have := HFN.out; omega)) (fun h => by have := HACC.out; rw [decide_eq_true h] at this; cases this)
                subst eK2
                obtain rfl := HW1.out (by decide)
                clear HS3
                as_aux_lemma =>
                  go_wp2_with fail
                  refine (matched_true wr).mono ?_
                  rintro e w20 ⟨rfl, hb20⟩
                  have HB20 := hid (HBw.out.trans (hb20.mono HBw.out.size))
                  clear hb20
                  go_wp2_with fail
                  go_ret
                  exact ⟨ret_true (by first | rfl | (simp; done) | (simp; omega)), HB20.out⟩
              · have eK2 : K2 = 0 := by rw [← HK2.out, errW_in (askW_in HC.out (by omega) (by have := HFN.out; omega)) (of_decide_eq_true HACC.out.symm)]; exact errOf_ok HX.out
                subst eK2
                have hm5 := HW2.out rfl
                rw [Int.toNat_natCast, within_allM, HLL.out] at hm5
                have HM5 := hid hm5
                clear HS3 HW2 hm5
                as_aux_lemma =>
                  go_wp2_with fail
                  refine (HCHN.out wr HBr.out (HA_7.out.kept (Kept.of_below hbw.out))).mono ?_
                  rintro e w8 ⟨hb8, A8, c8, rfl, hF8⟩
                  obtain ⟨rb, roff, rfl, hrc⟩ := hF8 (by simp; omega)
                  obtain ⟨Ar, cr, f1, f2⟩ := hrc fn (by simp; omega)
                  have eL : ((List.range b.finds.length).map fun i => givenTo b.all i b.slots.length)[fn]'(by simp; omega) = L := by rw [← HLL.out]; simp [given_chances HG.out]
                  rw [eL] at f1 f2
                  have F2_8 := hid f2
                  have HT_8 := hid ((HT_7.out.kept (Kept.of_below hbw.out)).kept (Kept.of_below hb8))
                  have HR_8 := hid ((HR_7.out.kept (Kept.of_below hbw.out)).kept (Kept.of_below hb8))
                  have HA_8 := hid ((HA_7.out.kept (Kept.of_below hbw.out)).kept (Kept.of_below hb8))
                  have y0 := (Kept.of_below hb8) _ _ x0
                  have y1 := (Kept.of_below hb8) _ _ x1
                  have y2 := (Kept.of_below hb8) _ _ x2
                  have HB8 := hid (HBw.out.trans (hb8.mono HBw.out.size))
                  have HL8 := hid (hL0.out.kept (Kept.of_below HB8.out))
                  clear hF8 hrc eL f2 hb8 x0 x1 x2
                  go_wp2_with fail
                  go_loopg [27, 28] (L.length) (fun g tt i wr => wr = w8 ∧ ∃ (j : Nat) (q : Bool), j ≤ L.length ∧ g = L.length - j ∧ i = .int .i64 j ∧ tt = .bool q ∧ Hid (q = (decide (0 < L.length) && allInM (L.take j) l)))
                  case atStart => exact ⟨rfl, 0, _, by omega, by omega, rfl, rfl, hid (by simp [allInM])⟩
                  case round =>
                    obtain ⟨rfl, j, q, hj, hgj, rfl, rfl, hq⟩ := hrel
                    by_cases hlj : j < L.length
                    · obtain ⟨qb, qoff, rfl, hqc⟩ := F2_8.out (by omega)
                      have hqk := hqc j hlj
                      have i0 : (0 : Int) ≤ j := by omega
                      have i1 : (j : Int) < L.length := by omega
                      have HQ := hid hq.out
                      obtain ⟨x, hx⟩ : ∃ x, L[j] = x := ⟨_, rfl⟩
                      rw [hx] at hqk
                      have HST : Hid (∀ r, decide (x ∈ l) = r → (q && r) = (decide (0 < L.length) && allInM (L.take (j + 1)) l)) := hid (fun r h => within_stepM hlj hq.out (by rw [hx]; exact h))
                      clear hqc hx hq
                      rcases q with _ | _
                      · go_wp2_with fail
                        go_roundg (L.length - (j + 1))
                        case measure => omega
                        case rel => exact ⟨rfl, j + 1, _, by omega, rfl, by go_num, rfl, hid (by have := HST.out _ rfl; simpa using this)⟩
                      · obtain ⟨r2, hr2⟩ : ∃ r2, decide (x ∈ l) = r2 := ⟨_, rfl⟩
                        have HR22 := hid hr2
                        clear hr2
                        go_wp2_with fail
                        refine (has_t Al cl l x wr (by omega) HL8.out HR22.out).mono ?_
                        rintro e w9 ⟨rfl, rfl⟩
                        go_wp2_with fail
                        go_roundg (L.length - (j + 1))
                        case measure => omega
                        case rel => exact ⟨rfl, j + 1, _, by omega, rfl, by go_num, rfl, hid (by have := HST.out _ HR22.out; simpa using this)⟩
                    · obtain rfl : j = L.length := by omega
                      have hq2 := hq.out
                      rw [List.take_length] at hq2
                      have hm5 := HM5.out
                      rw [← hq2] at hm5
                      subst hm5
                      clear hq hq2 hlj hgj hj
                      as_aux_lemma =>
                        go_wp2_with fail
                        refine (matched_true wr).mono ?_
                        rintro e w20 ⟨rfl, hb20⟩
                        have HB20 := hid (HB8.out.trans (hb20.mono HB8.out.size))
                        clear hb20
                        go_wp2_with fail
                        go_ret
                        exact ⟨ret_true (by first | rfl | (simp; done) | (simp; omega)), HB20.out⟩
            · have eK : K = 1 := by rw [← HK.out, ask_out2 HC.out (.inr (.inr (.inr p3)))]; exact errOf_ask (by decide)
              subst eK
              obtain rfl := HM1.out (by decide)
              obtain ⟨rfl, rfl⟩ := HT1.out (by decide)
              obtain ⟨rfl, rfl⟩ := HR1.out (by decide)
              rcases acc with _ | _
              · have eK2 : K2 = 1 := by rw [← HK2.out]; exact errW_bad (askW_in HC.out (by omega) (by have := HFN.out; omega)) (fun h => by have := HACC.out; rw [decide_eq_true h] at this; cases this)
                subst eK2
                obtain rfl := HW1.out (by decide)
                clear HS3
                as_aux_lemma =>
                  go_wp2_with fail
                  refine (matched_true wr).mono ?_
                  rintro e w20 ⟨rfl, hb20⟩
                  have HB20 := hid (HBw.out.trans (hb20.mono HBw.out.size))
                  clear hb20
                  go_wp2_with fail
                  go_ret
                  exact ⟨ret_true (by first | rfl | (simp; done) | (simp; omega)), HB20.out⟩
              · have eK2 : K2 = 0 := by rw [← HK2.out, errW_in (askW_in HC.out (by omega) (by have := HFN.out; omega)) (of_decide_eq_true HACC.out.symm)]; exact errOf_ok HX.out
                subst eK2
                have hm5 := HW2.out rfl
                rw [Int.toNat_natCast, within_allM, HLL.out] at hm5
                have HM5 := hid hm5
                clear HS3 HW2 hm5
                as_aux_lemma =>
                  go_wp2_with fail
                  refine (HCHN.out wr HBr.out (HA_7.out.kept (Kept.of_below hbw.out))).mono ?_
                  rintro e w8 ⟨hb8, A8, c8, rfl, hF8⟩
                  obtain ⟨rb, roff, rfl, hrc⟩ := hF8 (by simp; omega)
                  obtain ⟨Ar, cr, f1, f2⟩ := hrc fn (by simp; omega)
                  have eL : ((List.range b.finds.length).map fun i => givenTo b.all i b.slots.length)[fn]'(by simp; omega) = L := by rw [← HLL.out]; simp [given_chances HG.out]
                  rw [eL] at f1 f2
                  have F2_8 := hid f2
                  have HT_8 := hid ((HT_7.out.kept (Kept.of_below hbw.out)).kept (Kept.of_below hb8))
                  have HR_8 := hid ((HR_7.out.kept (Kept.of_below hbw.out)).kept (Kept.of_below hb8))
                  have HA_8 := hid ((HA_7.out.kept (Kept.of_below hbw.out)).kept (Kept.of_below hb8))
                  have y0 := (Kept.of_below hb8) _ _ x0
                  have y1 := (Kept.of_below hb8) _ _ x1
                  have y2 := (Kept.of_below hb8) _ _ x2
                  have HB8 := hid (HBw.out.trans (hb8.mono HBw.out.size))
                  have HL8 := hid (hL0.out.kept (Kept.of_below HB8.out))
                  clear hF8 hrc eL f2 hb8 x0 x1 x2
                  go_wp2_with fail
                  go_loopg [27, 28] (L.length) (fun g tt i wr => wr = w8 ∧ ∃ (j : Nat) (q : Bool), j ≤ L.length ∧ g = L.length - j ∧ i = .int .i64 j ∧ tt = .bool q ∧ Hid (q = (decide (0 < L.length) && allInM (L.take j) l)))
                  case atStart => exact ⟨rfl, 0, _, by omega, by omega, rfl, rfl, hid (by simp [allInM])⟩
                  case round =>
                    obtain ⟨rfl, j, q, hj, hgj, rfl, rfl, hq⟩ := hrel
                    by_cases hlj : j < L.length
                    · obtain ⟨qb, qoff, rfl, hqc⟩ := F2_8.out (by omega)
                      have hqk := hqc j hlj
                      have i0 : (0 : Int) ≤ j := by omega
                      have i1 : (j : Int) < L.length := by omega
                      have HQ := hid hq.out
                      obtain ⟨x, hx⟩ : ∃ x, L[j] = x := ⟨_, rfl⟩
                      rw [hx] at hqk
                      have HST : Hid (∀ r, decide (x ∈ l) = r → (q && r) = (decide (0 < L.length) && allInM (L.take (j + 1)) l)) := hid (fun r h => within_stepM hlj hq.out (by rw [hx]; exact h))
                      clear hqc hx hq
                      rcases q with _ | _
                      · go_wp2_with fail
                        go_roundg (L.length - (j + 1))
                        case measure => omega
                        case rel => exact ⟨rfl, j + 1, _, by omega, rfl, by go_num, rfl, hid (by have := HST.out _ rfl; simpa using this)⟩
                      · obtain ⟨r2, hr2⟩ : ∃ r2, decide (x ∈ l) = r2 := ⟨_, rfl⟩
                        have HR22 := hid hr2
                        clear hr2
                        go_wp2_with fail
                        refine (has_t Al cl l x wr (by omega) HL8.out HR22.out).mono ?_
                        rintro e w9 ⟨rfl, rfl⟩
                        go_wp2_with fail
                        go_roundg (L.length - (j + 1))
                        case measure => omega
                        case rel => exact ⟨rfl, j + 1, _, by omega, rfl, by go_num, rfl, hid (by have := HST.out _ HR22.out; simpa using this)⟩
                    · obtain rfl : j = L.length := by omega
                      have hq2 := hq.out
                      rw [List.take_length] at hq2
                      have hm5 := HM5.out
                      rw [← hq2] at hm5
                      subst hm5
                      clear hq hq2 hlj hgj hj
                      as_aux_lemma =>
                        go_wp2_with fail
                        refine (matched_true wr).mono ?_
                        rintro e w20 ⟨rfl, hb20⟩
                        have HB20 := hid (HB8.out.trans (hb20.mono HB8.out.size))
                        clear hb20
                        go_wp2_with fail
                        go_ret
                        exact ⟨ret_true (by first | rfl | (simp; done) | (simp; omega)), HB20.out⟩
            · have eK : K = 0 := by rw [← HK.out, ask_in2 HC.out (by omega) (by have := HFN.out; omega) (by omega) (by omega)]; exact errOf_ok HX.out
              subst eK
              have hx2 := HT2.out rfl
              have hx4 := HR2.out rfl
              have hx0 := HM2.out rfl
              rw [Int.toNat_natCast] at hx2 hx4 hx0
              have HX2 := hid hx2
              have HX4 := hid hx4
              have HX0 := hid hx0
              clear hx2 hx4 hx0 HT2 HR2 HM2
              rcases acc with _ | _
              · have eK2 : K2 = 1 := by rw [← HK2.out]; exact errW_bad (askW_in HC.out (by omega) (by have := HFN.out; omega)) (fun h => by have := HACC.out; rw [decide_eq_true h] at this; cases this)
                subst eK2
                obtain rfl := HW1.out (by decide)
                clear HS3
                have HT_w := hid (HT_7.out.kept (Kept.of_below hbw.out))
                have HR_w := hid (HR_7.out.kept (Kept.of_below hbw.out))
                have HA_w := hid (HA_7.out.kept (Kept.of_below hbw.out))
                as_aux_lemma =>
                  rcases hcan : canB b.fits (pieces b.slots) fn s with _ | _
                  · have HCAN := hid hcan
                    obtain ⟨e1, e2, e3⟩ := HX2.out
                    obtain ⟨e4, e5, e6⟩ := HX4.out
                    have e0 := HX0.out
                    rw [hcan] at e0 e1 e4
                    subst e0
                    obtain rfl : m3 = false := e1
                    obtain rfl : m4 = true := e4
                    have hden := e6 rfl
                    obtain rfl := e3 rfl
                    have HDEN := hid hden
                    clear e2 e3 e5 e6 hcan hden
                    go_wp2_with fail
                    refine (HCHN.out wr (hB0.out.kept (Kept.of_below HBw.out)) HA_w.out).mono ?_
                    rintro e w10 ⟨hb10, A10, c10, rfl, hF10⟩
                    obtain ⟨rb2, roff2, rfl, hrc2⟩ := hF10 (by simp; omega)
                    obtain ⟨Ar2, cr2, g1, g2⟩ := hrc2 fn (by simp; omega)
                    have eL2 : ((List.range b.finds.length).map fun i => givenTo b.all i b.slots.length)[fn]'(by simp; omega) = L := by rw [← HLL.out]; simp [given_chances HG.out]
                    rw [eL2] at g1 g2
                    have G2_10 := hid g2
                    have HT_10 := hid (HT_w.out.kept (Kept.of_below hb10))
                    have HR_10 := hid (HR_w.out.kept (Kept.of_below hb10))
                    have k100 := (Kept.of_below hb10) _ _ x0
                    have k101 := (Kept.of_below hb10) _ _ x1
                    have k102 := (Kept.of_below hb10) _ _ x2
                    have HB10 := hid (HBw.out.trans (hb10.mono HBw.out.size))
                    clear hF10 hrc2 eL2 g2 hb10 x0 x1 x2
                    go_wp2_with fail
                    refine (has_t Ar2 cr2 L s w10 (by omega) G2_10.out (t := false) (by rw [← HLL.out, ← can_chanceM (by omega)]; exact HCAN.out)).mono ?_
                    rintro e w11 ⟨rfl, rfl⟩
                    obtain ⟨ok, hok⟩ : ∃ ok, asB b [] = ok := ⟨_, rfl⟩
                    have HOK := hid hok
                    clear hok
                    go_wp2_with fail
                    refine (refMeets_t b Af As At A3 cf cs ct c3 [] w10 HS.out HC.out (by simp) (hB0.out.kept (Kept.of_below HB10.out)) HT_10.out HOK.out).mono ?_
                    rintro e w12 ⟨rfl, hb12⟩
                    have HT_12 := hid (HT_10.out.kept (Kept.of_below hb12))
                    have HR_12 := hid (HR_10.out.kept (Kept.of_below hb12))
                    have k120 := (Kept.of_below hb12) _ _ k100
                    have k121 := (Kept.of_below hb12) _ _ k101
                    have k122 := (Kept.of_below hb12) _ _ k102
                    have HB12 := hid (HB10.out.trans (hb12.mono HB10.out.size))
                    clear hb12 k100 k101 k102
                    go_wp2_with fail
                    refine (refDeny_true b Af As At A4 cf cs ct c4 fn s r w12 HS.out hr80 (hB0.out.kept (Kept.of_below HB12.out)) HR_12.out (ask_in2 HC.out (by omega) (by have := HFN.out; omega) (by omega) (by omega)) HDEN.out).mono ?_
                    rintro e w13 ⟨rfl, hb13⟩
                    have HT_13 := hid (HT_12.out.kept (Kept.of_below hb13))
                    have HB13 := hid (HB12.out.trans (hb13.mono HB12.out.size))
                    clear hb13 k120 k121 k122
                    go_wp2_with fail
                    refine (matched_true w13).mono ?_
                    rintro e w20 ⟨rfl, hb20⟩
                    have HT_20 := hid (HT_13.out.kept (Kept.of_below hb20))
                    have HB20 := hid (HB13.out.trans (hb20.mono HB13.out.size))
                    clear hb20
                    go_wp2_with fail
                    go_ret
                    exact ⟨ret_true (by first | rfl | (simp; done) | (simp; omega)), HB20.out⟩
                  · have HCAN := hid hcan
                    obtain ⟨e1, e2, e3⟩ := HX2.out
                    obtain ⟨e4, e5, e6⟩ := HX4.out
                    have e0 := HX0.out
                    rw [hcan] at e0 e1 e4
                    subst e0
                    obtain rfl : m3 = true := e1
                    obtain rfl : m4 = false := e4
                    obtain ⟨hast, hhas⟩ := e2 rfl
                    obtain rfl := e5 rfl
                    have HAST := hid hast
                    have HHAS := hid hhas
                    clear e2 e3 e5 e6 hcan hast hhas
                    go_wp2_with fail
                    refine (HCHN.out wr (hB0.out.kept (Kept.of_below HBw.out)) HA_w.out).mono ?_
                    rintro e w10 ⟨hb10, A10, c10, rfl, hF10⟩
                    obtain ⟨rb2, roff2, rfl, hrc2⟩ := hF10 (by simp; omega)
                    obtain ⟨Ar2, cr2, g1, g2⟩ := hrc2 fn (by simp; omega)
                    have eL2 : ((List.range b.finds.length).map fun i => givenTo b.all i b.slots.length)[fn]'(by simp; omega) = L := by rw [← HLL.out]; simp [given_chances HG.out]
                    rw [eL2] at g1 g2
                    have G2_10 := hid g2
                    have HT_10 := hid (HT_w.out.kept (Kept.of_below hb10))
                    have HR_10 := hid (HR_w.out.kept (Kept.of_below hb10))
                    have k100 := (Kept.of_below hb10) _ _ x0
                    have k101 := (Kept.of_below hb10) _ _ x1
                    have k102 := (Kept.of_below hb10) _ _ x2
                    have HB10 := hid (HBw.out.trans (hb10.mono HBw.out.size))
                    clear hF10 hrc2 eL2 g2 hb10 x0 x1 x2
                    go_wp2_with fail
                    refine (has_t Ar2 cr2 L s w10 (by omega) G2_10.out (t := true) (by rw [← HLL.out, ← can_chanceM (by omega)]; exact HCAN.out)).mono ?_
                    rintro e w11 ⟨rfl, rfl⟩
                    obtain ⟨ok, hok⟩ : ∃ ok, asB b t = ok := ⟨_, rfl⟩
                    have HOK := hid hok
                    clear hok
                    go_wp2_with fail
                    refine (refMeets_t b Af As At A3 cf cs ct c3 t w10 HS.out HC.out (by omega) (hB0.out.kept (Kept.of_below HB10.out)) HT_10.out HOK.out).mono ?_
                    rintro e w12 ⟨rfl, hb12⟩
                    have HT_12 := hid (HT_10.out.kept (Kept.of_below hb12))
                    have HR_12 := hid (HR_10.out.kept (Kept.of_below hb12))
                    have k120 := (Kept.of_below hb12) _ _ k100
                    have k121 := (Kept.of_below hb12) _ _ k101
                    have k122 := (Kept.of_below hb12) _ _ k102
                    have HB12 := hid (HB10.out.trans (hb12.mono HB10.out.size))
                    clear hb12 k100 k101 k102
                    go_wp2_with fail
                    refine (refDeny_some b Af As At A4 cf cs ct c4 fn s [] w12 HS.out (by simp) (hB0.out.kept (Kept.of_below HB12.out)) HR_12.out).mono ?_
                    rintro e w13 ⟨sh, kk, rfl, hb13⟩
                    have hok2 : ok = true := by rw [← HOK.out]; exact asB_yes HAST.out
                    subst hok2
                    have HT_13 := hid (HT_12.out.kept (Kept.of_below hb13))
                    have HB13 := hid (HB12.out.trans (hb13.mono HB12.out.size))
                    clear hb13 k120 k121 k122
                    go_wp2_with fail
                    refine (matched_true w13).mono ?_
                    rintro e w20 ⟨rfl, hb20⟩
                    have HT_20 := hid (HT_13.out.kept (Kept.of_below hb20))
                    have HB20 := hid (HB13.out.trans (hb20.mono HB13.out.size))
                    clear hb20
                    have htl : t.length = b.finds.length := by rw [HAST.out.len]; exact HFI.out.fits
                    have hfnt : fn < t.length := by have := HFN.out; omega
                    obtain ⟨tb, toff, rfl, htc⟩ := HT_20.out (by omega)
                    have htk := htc fn hfnt
                    have hts : t[fn] = s := by rw [← hasOf_lt hfnt]; exact HHAS.out
                    rw [hts] at htk
                    have u0 : (0 : Int) ≤ fn := by omega
                    have u1 : (fn : Int) < t.length := by omega
                    clear htl htc hts
                    go_wp2_with fail
                    go_ret
                    exact ⟨ret_true (by first | rfl | (simp; done) | (simp; omega)), HB20.out⟩
              · have eK2 : K2 = 0 := by rw [← HK2.out, errW_in (askW_in HC.out (by omega) (by have := HFN.out; omega)) (of_decide_eq_true HACC.out.symm)]; exact errOf_ok HX.out
                subst eK2
                have hm5 := HW2.out rfl
                rw [Int.toNat_natCast, within_allM, HLL.out] at hm5
                have HM5 := hid hm5
                clear HS3 HW2 hm5
                as_aux_lemma =>
                  go_wp2_with fail
                  refine (HCHN.out wr HBr.out (HA_7.out.kept (Kept.of_below hbw.out))).mono ?_
                  rintro e w8 ⟨hb8, A8, c8, rfl, hF8⟩
                  obtain ⟨rb, roff, rfl, hrc⟩ := hF8 (by simp; omega)
                  obtain ⟨Ar, cr, f1, f2⟩ := hrc fn (by simp; omega)
                  have eL : ((List.range b.finds.length).map fun i => givenTo b.all i b.slots.length)[fn]'(by simp; omega) = L := by rw [← HLL.out]; simp [given_chances HG.out]
                  rw [eL] at f1 f2
                  have F2_8 := hid f2
                  have HT_8 := hid ((HT_7.out.kept (Kept.of_below hbw.out)).kept (Kept.of_below hb8))
                  have HR_8 := hid ((HR_7.out.kept (Kept.of_below hbw.out)).kept (Kept.of_below hb8))
                  have HA_8 := hid ((HA_7.out.kept (Kept.of_below hbw.out)).kept (Kept.of_below hb8))
                  have y0 := (Kept.of_below hb8) _ _ x0
                  have y1 := (Kept.of_below hb8) _ _ x1
                  have y2 := (Kept.of_below hb8) _ _ x2
                  have HB8 := hid (HBw.out.trans (hb8.mono HBw.out.size))
                  have HL8 := hid (hL0.out.kept (Kept.of_below HB8.out))
                  clear hF8 hrc eL f2 hb8 x0 x1 x2
                  go_wp2_with fail
                  go_loopg [27, 28] (L.length) (fun g tt i wr => wr = w8 ∧ ∃ (j : Nat) (q : Bool), j ≤ L.length ∧ g = L.length - j ∧ i = .int .i64 j ∧ tt = .bool q ∧ Hid (q = (decide (0 < L.length) && allInM (L.take j) l)))
                  case atStart => exact ⟨rfl, 0, _, by omega, by omega, rfl, rfl, hid (by simp [allInM])⟩
                  case round =>
                    obtain ⟨rfl, j, q, hj, hgj, rfl, rfl, hq⟩ := hrel
                    by_cases hlj : j < L.length
                    · obtain ⟨qb, qoff, rfl, hqc⟩ := F2_8.out (by omega)
                      have hqk := hqc j hlj
                      have i0 : (0 : Int) ≤ j := by omega
                      have i1 : (j : Int) < L.length := by omega
                      have HQ := hid hq.out
                      obtain ⟨x, hx⟩ : ∃ x, L[j] = x := ⟨_, rfl⟩
                      rw [hx] at hqk
                      have HST : Hid (∀ r, decide (x ∈ l) = r → (q && r) = (decide (0 < L.length) && allInM (L.take (j + 1)) l)) := hid (fun r h => within_stepM hlj hq.out (by rw [hx]; exact h))
                      clear hqc hx hq
                      rcases q with _ | _
                      · go_wp2_with fail
                        go_roundg (L.length - (j + 1))
                        case measure => omega
                        case rel => exact ⟨rfl, j + 1, _, by omega, rfl, by go_num, rfl, hid (by have := HST.out _ rfl; simpa using this)⟩
                      · obtain ⟨r2, hr2⟩ : ∃ r2, decide (x ∈ l) = r2 := ⟨_, rfl⟩
                        have HR22 := hid hr2
                        clear hr2
                        go_wp2_with fail
                        refine (has_t Al cl l x wr (by omega) HL8.out HR22.out).mono ?_
                        rintro e w9 ⟨rfl, rfl⟩
                        go_wp2_with fail
                        go_roundg (L.length - (j + 1))
                        case measure => omega
                        case rel => exact ⟨rfl, j + 1, _, by omega, rfl, by go_num, rfl, hid (by have := HST.out _ HR22.out; simpa using this)⟩
                    · obtain rfl : j = L.length := by omega
                      have hq2 := hq.out
                      rw [List.take_length] at hq2
                      have hm5 := HM5.out
                      rw [← hq2] at hm5
                      subst hm5
                      clear hq hq2 hlj hgj hj
                      as_aux_lemma =>
                        rcases hcan : canB b.fits (pieces b.slots) fn s with _ | _
                        · have HCAN := hid hcan
                          obtain ⟨e1, e2, e3⟩ := HX2.out
                          obtain ⟨e4, e5, e6⟩ := HX4.out
                          have e0 := HX0.out
                          rw [hcan] at e0 e1 e4
                          subst e0
                          obtain rfl : m3 = false := e1
                          obtain rfl : m4 = true := e4
                          have hden := e6 rfl
                          obtain rfl := e3 rfl
                          have HDEN := hid hden
                          clear e2 e3 e5 e6 hcan hden
                          go_wp2_with fail
                          refine (HCHN.out wr (hB0.out.kept (Kept.of_below HB8.out)) HA_8.out).mono ?_
                          rintro e w10 ⟨hb10, A10, c10, rfl, hF10⟩
                          obtain ⟨rb2, roff2, rfl, hrc2⟩ := hF10 (by simp; omega)
                          obtain ⟨Ar2, cr2, g1, g2⟩ := hrc2 fn (by simp; omega)
                          have eL2 : ((List.range b.finds.length).map fun i => givenTo b.all i b.slots.length)[fn]'(by simp; omega) = L := by rw [← HLL.out]; simp [given_chances HG.out]
                          rw [eL2] at g1 g2
                          have G2_10 := hid g2
                          have HT_10 := hid (HT_8.out.kept (Kept.of_below hb10))
                          have HR_10 := hid (HR_8.out.kept (Kept.of_below hb10))
                          have k100 := (Kept.of_below hb10) _ _ y0
                          have k101 := (Kept.of_below hb10) _ _ y1
                          have k102 := (Kept.of_below hb10) _ _ y2
                          have HB10 := hid (HB8.out.trans (hb10.mono HB8.out.size))
                          clear hF10 hrc2 eL2 g2 hb10 y0 y1 y2
                          go_wp2_with fail
                          refine (has_t Ar2 cr2 L s w10 (by omega) G2_10.out (t := false) (by rw [← HLL.out, ← can_chanceM (by omega)]; exact HCAN.out)).mono ?_
                          rintro e w11 ⟨rfl, rfl⟩
                          obtain ⟨ok, hok⟩ : ∃ ok, asB b [] = ok := ⟨_, rfl⟩
                          have HOK := hid hok
                          clear hok
                          go_wp2_with fail
                          refine (refMeets_t b Af As At A3 cf cs ct c3 [] w10 HS.out HC.out (by simp) (hB0.out.kept (Kept.of_below HB10.out)) HT_10.out HOK.out).mono ?_
                          rintro e w12 ⟨rfl, hb12⟩
                          have HT_12 := hid (HT_10.out.kept (Kept.of_below hb12))
                          have HR_12 := hid (HR_10.out.kept (Kept.of_below hb12))
                          have k120 := (Kept.of_below hb12) _ _ k100
                          have k121 := (Kept.of_below hb12) _ _ k101
                          have k122 := (Kept.of_below hb12) _ _ k102
                          have HB12 := hid (HB10.out.trans (hb12.mono HB10.out.size))
                          clear hb12 k100 k101 k102
                          go_wp2_with fail
                          refine (refDeny_true b Af As At A4 cf cs ct c4 fn s r w12 HS.out hr80 (hB0.out.kept (Kept.of_below HB12.out)) HR_12.out (ask_in2 HC.out (by omega) (by have := HFN.out; omega) (by omega) (by omega)) HDEN.out).mono ?_
                          rintro e w13 ⟨rfl, hb13⟩
                          have HT_13 := hid (HT_12.out.kept (Kept.of_below hb13))
                          have HB13 := hid (HB12.out.trans (hb13.mono HB12.out.size))
                          clear hb13 k120 k121 k122
                          go_wp2_with fail
                          refine (matched_true w13).mono ?_
                          rintro e w20 ⟨rfl, hb20⟩
                          have HT_20 := hid (HT_13.out.kept (Kept.of_below hb20))
                          have HB20 := hid (HB13.out.trans (hb20.mono HB13.out.size))
                          clear hb20
                          go_wp2_with fail
                          go_ret
                          exact ⟨ret_true (by first | rfl | (simp; done) | (simp; omega)), HB20.out⟩
                        · have HCAN := hid hcan
                          obtain ⟨e1, e2, e3⟩ := HX2.out
                          obtain ⟨e4, e5, e6⟩ := HX4.out
                          have e0 := HX0.out
                          rw [hcan] at e0 e1 e4
                          subst e0
                          obtain rfl : m3 = true := e1
                          obtain rfl : m4 = false := e4
                          obtain ⟨hast, hhas⟩ := e2 rfl
                          obtain rfl := e5 rfl
                          have HAST := hid hast
                          have HHAS := hid hhas
                          clear e2 e3 e5 e6 hcan hast hhas
                          go_wp2_with fail
                          refine (HCHN.out wr (hB0.out.kept (Kept.of_below HB8.out)) HA_8.out).mono ?_
                          rintro e w10 ⟨hb10, A10, c10, rfl, hF10⟩
                          obtain ⟨rb2, roff2, rfl, hrc2⟩ := hF10 (by simp; omega)
                          obtain ⟨Ar2, cr2, g1, g2⟩ := hrc2 fn (by simp; omega)
                          have eL2 : ((List.range b.finds.length).map fun i => givenTo b.all i b.slots.length)[fn]'(by simp; omega) = L := by rw [← HLL.out]; simp [given_chances HG.out]
                          rw [eL2] at g1 g2
                          have G2_10 := hid g2
                          have HT_10 := hid (HT_8.out.kept (Kept.of_below hb10))
                          have HR_10 := hid (HR_8.out.kept (Kept.of_below hb10))
                          have k100 := (Kept.of_below hb10) _ _ y0
                          have k101 := (Kept.of_below hb10) _ _ y1
                          have k102 := (Kept.of_below hb10) _ _ y2
                          have HB10 := hid (HB8.out.trans (hb10.mono HB8.out.size))
                          clear hF10 hrc2 eL2 g2 hb10 y0 y1 y2
                          go_wp2_with fail
                          refine (has_t Ar2 cr2 L s w10 (by omega) G2_10.out (t := true) (by rw [← HLL.out, ← can_chanceM (by omega)]; exact HCAN.out)).mono ?_
                          rintro e w11 ⟨rfl, rfl⟩
                          obtain ⟨ok, hok⟩ : ∃ ok, asB b t = ok := ⟨_, rfl⟩
                          have HOK := hid hok
                          clear hok
                          go_wp2_with fail
                          refine (refMeets_t b Af As At A3 cf cs ct c3 t w10 HS.out HC.out (by omega) (hB0.out.kept (Kept.of_below HB10.out)) HT_10.out HOK.out).mono ?_
                          rintro e w12 ⟨rfl, hb12⟩
                          have HT_12 := hid (HT_10.out.kept (Kept.of_below hb12))
                          have HR_12 := hid (HR_10.out.kept (Kept.of_below hb12))
                          have k120 := (Kept.of_below hb12) _ _ k100
                          have k121 := (Kept.of_below hb12) _ _ k101
                          have k122 := (Kept.of_below hb12) _ _ k102
                          have HB12 := hid (HB10.out.trans (hb12.mono HB10.out.size))
                          clear hb12 k100 k101 k102
                          go_wp2_with fail
                          refine (refDeny_some b Af As At A4 cf cs ct c4 fn s [] w12 HS.out (by simp) (hB0.out.kept (Kept.of_below HB12.out)) HR_12.out).mono ?_
                          rintro e w13 ⟨sh, kk, rfl, hb13⟩
                          have hok2 : ok = true := by rw [← HOK.out]; exact asB_yes HAST.out
                          subst hok2
                          have HT_13 := hid (HT_12.out.kept (Kept.of_below hb13))
                          have HB13 := hid (HB12.out.trans (hb13.mono HB12.out.size))
                          clear hb13 k120 k121 k122
                          go_wp2_with fail
                          refine (matched_true w13).mono ?_
                          rintro e w20 ⟨rfl, hb20⟩
                          have HT_20 := hid (HT_13.out.kept (Kept.of_below hb20))
                          have HB20 := hid (HB13.out.trans (hb20.mono HB13.out.size))
                          clear hb20
                          have htl : t.length = b.finds.length := by rw [HAST.out.len]; exact HFI.out.fits
                          have hfnt : fn < t.length := by have := HFN.out; omega
                          obtain ⟨tb, toff, rfl, htc⟩ := HT_20.out (by omega)
                          have htk := htc fn hfnt
                          have hts : t[fn] = s := by rw [← hasOf_lt hfnt]; exact HHAS.out
                          rw [hts] at htk
                          have u0 : (0 : Int) ≤ fn := by omega
                          have u1 : (fn : Int) < t.length := by omega
                          clear htl htc hts
                          go_wp2_with fail
                          go_ret
                          exact ⟨ret_true (by first | rfl | (simp; done) | (simp; omega)), HB20.out⟩
end Go.Proofs.Ytpmdjbjnihhjeaa
