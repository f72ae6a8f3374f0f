/- MatchBoards, walked: the law's function returns true. -/
import Derived.Test.YtpmdjbjnihhjeaaBoardsPlain
import Derived.Test.YtpmdjbjnihhjeaaLoadsLaw
import Derived.Test.YtpmdjbjnihhjeaaRefDeny
namespace Go.Proofs.Ytpmdjbjnihhjeaa
open Go.RowKit
set_option linter.unusedSimpArgs false

theorem chances_len (b : Board) : b.chances.length = b.finds.length := chancesTo_length _ _
theorem chances_at {b : Board} {i : Nat} (h : i < b.chances.length) : b.chances[i] = chancesOf b.fits (pieces b.slots) i := by simp [Board.chances, chancesTo]
theorem chance_len {fits : List (List Int)} {room : List Int} {f : Nat} : (chancesOf fits room f).length ≤ (fitOf fits f).length := List.length_filter_le _ _
theorem chances_short {b : Board} (hs : b.small) : ∀ l ∈ b.chances, l.length ≤ 60 := fun l hl => by
  obtain ⟨i, hi, rfl⟩ := List.getElem_of_mem hl
  rw [chances_at]
  refine Nat.le_trans chance_len ?_
  by_cases h : i < b.fits.length
  · rw [fitOf_lt h]; exact hs.2.2.2 _ (List.getElem_mem _)
  · rw [fitOf_ge (by omega)]; simp

/-- Barred and Fixed are refused alike, or both give their board. -/
theorem both_fit {q ky kz : Int} {b y z : Board} {f : Nat} {s : Int} {F G : List Int → List Int}
    (hy : (q ≠ 0 ∧ ky = q ∧ y = Board.nil) ∨ (q = 0 ∧ s ∉ fitOf b.fits (f : Int).toNat ∧ ky = 5 ∧ y = Board.nil) ∨ (q = 0 ∧ s ∈ fitOf b.fits (f : Int).toNat ∧ ky = 0 ∧ y = b.refit (f : Int).toNat (F (fitOf b.fits (f : Int).toNat))))
    (hz : (q ≠ 0 ∧ kz = q ∧ z = Board.nil) ∨ (q = 0 ∧ s ∉ fitOf b.fits (f : Int).toNat ∧ kz = 5 ∧ z = Board.nil) ∨ (q = 0 ∧ s ∈ fitOf b.fits (f : Int).toNat ∧ kz = 0 ∧ z = b.refit (f : Int).toNat (G (fitOf b.fits (f : Int).toNat)))) :
    (kz = ky ∧ ky ≠ 0) ∨ (ky = 0 ∧ kz = 0 ∧ q = 0 ∧ s ∈ fitOf b.fits f ∧ y = b.refit f (F (fitOf b.fits f)) ∧ z = b.refit f (G (fitOf b.fits f))) := by
  rw [Int.toNat_natCast] at hy hz
  rcases hy with ⟨h1, h2, h3⟩ | ⟨h1, h2, h3, h4⟩ | ⟨h1, h2, h3, h4⟩ <;> rcases hz with ⟨g1, g2, g3⟩ | ⟨g1, g2, g3, g4⟩ | ⟨g1, g2, g3, g4⟩
  · exact .inl ⟨by omega, by omega⟩
  · exact absurd g1 h1
  · exact absurd g1 h1
  · exact absurd h1 g1
  · exact .inl ⟨by omega, by omega⟩
  · exact absurd g2 h2
  · exact absurd h1 g1
  · exact absurd h2 g2
  · exact .inr ⟨h3, g3, h1, h2, h4, g4⟩
theorem fit_short {b : Board} (hs : b.small) {f : Nat} : (fitOf b.fits f).length ≤ 60 := by
  by_cases h : f < b.fits.length
  · rw [fitOf_lt h]; exact hs.2.2.2 _ (List.getElem_mem _)
  · rw [fitOf_ge (by omega)]; simp
theorem Rise_fit {b : Board} (hg : b.Good) {f : Nat} (h : f < b.fits.length) : Rise (fitOf b.fits f) 0 (b.slots.length - 1) := by
  rw [fitOf_lt h]; exact hg.fits _ (List.getElem_mem _)
theorem refit_at {b : Board} {f : Nat} {L : List Int} (h : f < (b.refit f L).fits.length) : (b.refit f L).fits[f] = L := by simp [Board.refit]

set_option maxRecDepth 100000 in
set_option maxHeartbeats 32000000 in
theorem matchBoards_any (b : Board) (Af As At : Option Addr) (cf cs ct : Nat) (f s : Int) (w : World) (hB : BoardAt w Af As At b) :
    Calls Try.prog 12 #[.agg #[.slice Af b.finds.length cf, .slice As b.slots.length cs, .slice At b.fits.length ct], .int .i64 f, .int .i64 s] w (LawPost w) := by
  obtain ⟨W, hW, b0, b1, b2, hbW, hz⟩ := box3 w (.slice Af b.finds.length cf) (.slice As b.slots.length cs) (.slice At b.fits.length ct) 26
  have HBW := hid hbW
  have hBW := hid (hB.kept (Kept.of_below hbW))
  have hB0 := hid hB
  clear hz hbW hB
  go_enter Try.func12, Try.ntmps12
  go_wp2_with fail
  refine (wide_any b Af As At cf cs ct W hBW.out).mono ?_
  rintro e w1 ⟨t, rfl, hb1, hw1⟩
  have k0 := (Kept.of_below hb1) _ _ b0
  have k1 := (Kept.of_below hb1) _ _ b1
  have k2 := (Kept.of_below hb1) _ _ b2
  have HB1 := hid (HBW.out.trans (hb1.mono HBW.out.size))
  clear hb1 hW b0 b1 b2 hBW HBW
  rcases t with _ | _
  case false =>
    go_wp2_with fail
    refine (matched_true w1).mono ?_
    rintro e wm ⟨rfl, hbm⟩
    have HBM := hid (HB1.out.trans (hbm.mono HB1.out.size))
    clear hbm
    go_wp2_with fail
    go_ret
    exact ⟨rfl, HBM.out⟩
  have HS := hid (hw1 rfl).1
  clear hw1
  go_wp2_with fail
  refine (everyChance_any b Af As At cf cs ct w1 HS.out (hB0.out.kept (Kept.of_below HB1.out))).mono ?_
  rintro e w2 ⟨hb2, hpost⟩
  have m0 := (Kept.of_below hb2) _ _ k0
  have m1 := (Kept.of_below hb2) _ _ k1
  have m2 := (Kept.of_below hb2) _ _ k2
  have HB2 := hid (HB1.out.trans (hb2.mono HB1.out.size))
  clear hb2 k0 k1 k2 HB1
  have hwo := without_any b Af As At cf cs ct w2 HS.out (hB0.out.kept (Kept.of_below HB2.out)) f
  rcases hpost with ⟨hne, rfl⟩ | ⟨hc, hno, rfl⟩ | ⟨hc, hex, AL, cL, us, rfl, hown, hli⟩
  · have d1 : (b.check != 0) = true := bne_iff_ne.2 hne
    clear hne
    generalize (if askOf b f 0 false true = 0 then b.without f.toNat else Board.nil) = d at hwo
    generalize askOf b f 0 false true = q at hwo
    have HWO := hid hwo
    clear hwo
    go_wp2_with fail
    refine HWO.out.mono ?_
    rintro e w3 ⟨hb3, Af', cf', As', cs', At', ct', rfl, hBd⟩
    obtain ⟨V3, hV3, _, _, _, hbV3, _⟩ := box3 w3 (.slice Af' d.finds.length cf') (.slice As' d.slots.length cs') (.slice At' d.fits.length ct') 26
    have HB3 := hid (HB2.out.trans ((hb3.trans (hbV3.mono hb3.size)).mono HB2.out.size))
    clear hb3 hbV3 hBd HWO
    go_wp2_with fail
    refine (matched_true V3).mono ?_
    rintro e wm ⟨rfl, hbm⟩
    have HBM := hid (HB3.out.trans (hbm.mono HB3.out.size))
    clear hbm
    go_wp2_with fail
    go_ret
    exact ⟨rfl, HBM.out⟩
  · clear hc hno
    generalize (if askOf b f 0 false true = 0 then b.without f.toNat else Board.nil) = d at hwo
    generalize askOf b f 0 false true = q at hwo
    have HWO := hid hwo
    clear hwo
    go_wp2_with fail
    refine HWO.out.mono ?_
    rintro e w3 ⟨hb3, Af', cf', As', cs', At', ct', rfl, hBd⟩
    obtain ⟨V3, hV3, _, _, _, hbV3, _⟩ := box3 w3 (.slice Af' d.finds.length cf') (.slice As' d.slots.length cs') (.slice At' d.fits.length ct') 26
    have HB3 := hid (HB2.out.trans ((hb3.trans (hbV3.mono hb3.size)).mono HB2.out.size))
    clear hb3 hbV3 hBd HWO
    go_wp2_with fail
    refine (matched_true V3).mono ?_
    rintro e wm ⟨rfl, hbm⟩
    have HBM := hid (HB3.out.trans (hbm.mono HB3.out.size))
    clear hbm
    go_wp2_with fail
    go_ret
    exact ⟨rfl, HBM.out⟩
  by_cases hq : askOf b f 0 false true = 0
  case neg =>
    have d1 : (askOf b f 0 false true != 0) = true := bne_iff_ne.2 hq
    rw [if_neg hq] at hwo
    clear hq hc hex hown hli
    generalize askOf b f 0 false true = q at hwo d1
    generalize Board.nil = d at hwo
    have HWO := hid hwo
    clear hwo
    go_wp2_with fail
    refine HWO.out.mono ?_
    rintro e w3 ⟨hb3, Af', cf', As', cs', At', ct', rfl, hBd⟩
    obtain ⟨V3, hV3, _, _, _, hbV3, _⟩ := box3 w3 (.slice Af' d.finds.length cf') (.slice As' d.slots.length cs') (.slice At' d.fits.length ct') 26
    have HB3 := hid (HB2.out.trans ((hb3.trans (hbV3.mono hb3.size)).mono HB2.out.size))
    clear hb3 hbV3 hBd HWO
    go_wp2_with fail
    refine (matched_true V3).mono ?_
    rintro e wm ⟨rfl, hbm⟩
    have HBM := hid (HB3.out.trans (hbm.mono HB3.out.size))
    clear hbm
    go_wp2_with fail
    go_ret
    exact ⟨rfl, HBM.out⟩
  rw [if_pos hq, hq] at hwo
  obtain ⟨_, r3, r4⟩ := askOf_find hq
  obtain ⟨fn, rfl⟩ := Int.eq_ofNat_of_zero_le r3
  rw [Int.toNat_natCast] at hwo
  have hfn : fn < b.finds.length := by omega
  have HC := hid hc
  have HEX := hid hex
  have HG := hid (Board.check_good hc)
  have HFI := hid (Board.check_fine HS.out hc)
  have HLS := hid (hli.fits hown)
  have n1 := HS.out.1
  obtain ⟨x, hx⟩ : ∃ x, b.without fn = x := ⟨_, rfl⟩
  rw [hx] at hwo
  have HX := hid hx
  have HWO := hid hwo
  have XS : Hid x.small := hid (by rw [← hx]; exact Board.without_small HS.out)
  have XC : Hid (x.check = 0) := hid (by rw [← hx]; exact Board.without_check hc)
  have XE : Hid (∃ a, x.As a) := hid (by obtain ⟨a, ha⟩ := hex; exact ⟨_, by rw [← hx]; exact Board.As.without ha⟩)
  have HXL : Hid (x.chances.length = b.chances.length - 1) := hid (by rw [chances_len, chances_len, ← hx]; exact List.length_eraseIdx_of_lt hfn)
  have HCL : Hid (b.chances.length = b.finds.length) := hid (chances_len b)
  have c70 : b.chances.length ≤ 70 := by rw [HCL.out]; exact n1
  have c1 : 1 ≤ b.chances.length := by rw [HCL.out]; omega
  have hff : Hid (fn < b.fits.length) := hid (by rw [HFI.out.fits]; exact hfn)
  clear hwo hx hq hc hex hown hli r3 r4
  go_wp2_with fail
  refine HWO.out.mono ?_
  rintro e w3 ⟨hb3, Af', cf', As', cs', At', ct', rfl, hBd⟩
  obtain ⟨V3, hV3, y0, y1, y2, hbV3, _⟩ := box3 w3 (.slice Af' x.finds.length cf') (.slice As' x.slots.length cs') (.slice At' x.fits.length ct') 26
  have k23 := (Kept.of_below hb3).trans (Kept.of_below hbV3)
  have k0 := k23 _ _ m0
  have k1 := k23 _ _ m1
  have k2 := k23 _ _ m2
  have HLS3 := hid (HLS.out.kept k23)
  have HB3 := hid (HB2.out.trans ((hb3.trans (hbV3.mono hb3.size)).mono HB2.out.size))
  have HBD := hid (hBd.kept (Kept.of_below hbV3))
  clear hb3 hbV3 hBd HWO k23 m0 m1 m2 HLS HB2
  go_wp2_with fail
  refine (everyChance_any x Af' As' At' cf' cs' ct' V3 XS.out HBD.out).mono ?_
  rintro e w4 ⟨hb4, hpost⟩
  rcases hpost with ⟨hne, _⟩ | ⟨_, hno, _⟩ | ⟨_, _, AX, cX, ux, rfl, hown, hli⟩
  · exact absurd XC.out hne
  · exact absurd XE.out hno
  have m0 := (Kept.of_below hb4) _ _ k0
  have m1 := (Kept.of_below hb4) _ _ k1
  have m2 := (Kept.of_below hb4) _ _ k2
  have HLS4 := hid (HLS3.out.kept (Kept.of_below hb4))
  have HLX4 := hid (hli.fits hown)
  have HB4 := hid (HB3.out.trans (hb4.mono HB3.out.size))
  have hxl := HXL.out
  have d2 : ((x.chances.length : Int) != (b.chances.length : Int) - 1) = false := by rw [bne_eq_false_iff_eq]; omega
  have s1 : IntKind.i64.wrap ((b.chances.length : Int) - 1) = (b.chances.length : Int) - 1 := by rw [IntKind.wrap_i64]; omega
  have c71 : x.chances.length ≤ 70 := by omega
  clear hb4 hown hli k0 k1 k2 HLS3 HB3 hV3 y0 y1 y2 hxl HBD
  go_wp2_with fail
  go_loopg [13] (x.chances.length) (fun g i wr => ∃ k : Nat, k ≤ x.chances.length ∧ g = x.chances.length - k ∧ i = .int .i64 k ∧ Hid (Below w4.heap.size w4 wr))
  case atStart => exact ⟨0, by omega, by omega, rfl, hid (Below.refl _ _)⟩
  case round =>
    obtain ⟨k, hk, hgk, rfl, hbw⟩ := hrel
    have kw := Kept.of_below hbw.out
    by_cases hlt : k < x.chances.length
    · obtain ⟨kk, hkk⟩ : ∃ kk : Nat, (if k < fn then k else k + 1) = kk := ⟨_, rfl⟩
      have hxl := HXL.out
      have hkl : kk < b.chances.length := by split at hkk <;> omega
      obtain ⟨ab, aoff, rfl, hc⟩ := HLS4.out (by omega)
      obtain ⟨xb, xoff, rfl, hx⟩ := HLX4.out (by omega)
      obtain ⟨Aj, cj, f1, f2⟩ := hc kk hkl
      obtain ⟨Bj, dj, g1, g2⟩ := hx k hlt
      have hsub : ∀ y ∈ b.chances[kk], y ∈ x.chances[k] := fun y hy => by
        rw [chances_at] at hy ⊢
        rw [← hkk] at hy
        rw [← HX.out]
        exact chance_without hy
      have hp60 := chances_short HS.out _ (List.getElem_mem hkl)
      have hq60 := chances_short XS.out _ (List.getElem_mem hlt)
      obtain ⟨P, hP⟩ : ∃ P, b.chances[kk] = P := ⟨_, rfl⟩
      obtain ⟨Q, hQ⟩ : ∃ Q, x.chances[k] = Q := ⟨_, rfl⟩
      rw [hP] at f1 f2 hsub hp60
      rw [hQ] at g1 g2 hsub hq60
      have HPL : Hid (P.length ≤ 9223372036854775807) := hid (by omega)
      have HQL : Hid (Q.length ≤ 9223372036854775807) := hid (by omega)
      have HSUB : Hid (decide (∀ y ∈ P, y ∈ Q) = true) := hid (decide_eq_true hsub)
      have F2 := hid (f2.kept kw)
      have G2 := hid (g2.kept kw)
      have f3 := kw _ _ f1
      have g3 := kw _ _ g1
      have i0 : (0 : Int) ≤ k := by omega
      have i1 : (k : Int) < x.chances.length := by omega
      clear hc hx f1 f2 g1 g2 hsub hP hQ kw
      by_cases hkf : k < fn
      · rw [if_pos hkf] at hkk
        subst hkk
        have i2 : ¬ (fn : Int) ≤ k := by omega
        have i3 : (k : Int) < b.chances.length := by omega
        clear hkf hxl hkl
        go_wp2_with fail
        go_quiet ((go_at_call 49; refine Calls.quietly (part_t Aj Bj cj dj P Q _ HPL.out HQL.out F2.out.dn G2.out.dn HSUB.out)))
        go_wp2_with fail
        go_roundg (x.chances.length - (k + 1))
        case measure => omega
        case rel => exact ⟨k + 1, by omega, rfl, by go_num, hid (Below.drewN' hbw.out _)⟩
      · rw [if_neg hkf] at hkk
        subst hkk
        have i2 : (fn : Int) ≤ k := by omega
        have i3 : (k : Int) + 1 < b.chances.length := by omega
        have i4 : (0 : Int) ≤ (k : Int) + 1 := by omega
        have i5 : ((k : Int) + 1).toNat = k + 1 := by omega
        clear hkf hxl hkl
        go_wp2_with fail
        go_quiet ((go_at_call 49; refine Calls.quietly (part_t Aj Bj cj dj P Q _ HPL.out HQL.out F2.out.dn G2.out.dn HSUB.out)))
        go_wp2_with fail
        go_roundg (x.chances.length - (k + 1))
        case measure => omega
        case rel => exact ⟨k + 1, by omega, rfl, by go_num, hid (Below.drewN' hbw.out _)⟩
    · obtain ⟨w5, e5⟩ : ∃ w5, w5 = wr := ⟨_, rfl⟩
      subst e5
      have k0 := kw _ _ m0
      have k1 := kw _ _ m1
      have k2 := kw _ _ m2
      have HLS5 := hid (HLS4.out.kept kw)
      have HB5 := hid (HB4.out.trans (hbw.out.mono HB4.out.size))
      obtain rfl : k = x.chances.length := by omega
      clear hlt hgk hk kw hbw m0 m1 m2 HLS4 HLX4 HB4 d2 s1
      go_wp2_with fail
      refine (barred_any b Af As At cf cs ct w5 HS.out (hB0.out.kept (Kept.of_below HB5.out)) (fn : Int) s).mono ?_
      rintro e w6 ⟨ky, y, ⟨hb6, vf, vs, vt, rfl, hMy⟩, hcy⟩
      obtain ⟨Yf, yf, Ys, ys, Yt, yt, rfl, rfl, rfl, hBy⟩ := hMy.boardAt
      obtain ⟨V6, hV6, y0, y1, y2, hbV6, _⟩ := box3 w6 (.slice Yf y.finds.length yf) (.slice Ys y.slots.length ys) (.slice Yt y.fits.length yt) 26
      have kk6 := (Kept.of_below hb6).trans (Kept.of_below hbV6)
      have m0 := kk6 _ _ k0
      have m1 := kk6 _ _ k1
      have m2 := kk6 _ _ k2
      have HLS6 := hid (HLS5.out.kept kk6)
      have HB6 := hid (HB5.out.trans ((hb6.trans (hbV6.mono hb6.size)).mono HB5.out.size))
      have HBY6 := hid (hBy.kept (Kept.of_below hbV6))
      have HCY := hid hcy
      clear hb6 hMy hcy hBy hbV6 kk6 k0 k1 k2 HLS5 HB5
      go_wp2_with fail
      refine (fixed_any b Af As At cf cs ct V6 HS.out (hB0.out.kept (Kept.of_below HB6.out)) (fn : Int) s).mono ?_
      rintro e w7 ⟨kz, z, ⟨hb7, vf, vs, vt, rfl, hMz⟩, hcz⟩
      obtain ⟨Zf, zf, Zs, zs, Zt, zt, rfl, rfl, rfl, hBz⟩ := hMz.boardAt
      obtain ⟨V7, hV7, z0, z1, z2, hbV7, _⟩ := box3 w7 (.slice Zf z.finds.length zf) (.slice Zs z.slots.length zs) (.slice Zt z.fits.length zt) 26
      have kk7 := (Kept.of_below hb7).trans (Kept.of_below hbV7)
      have k0 := kk7 _ _ m0
      have k1 := kk7 _ _ m1
      have k2 := kk7 _ _ m2
      have u0 := kk7 _ _ y0
      have u1 := kk7 _ _ y1
      have u2 := kk7 _ _ y2
      have HLS7 := hid (HLS6.out.kept kk7)
      have HB7 := hid (HB6.out.trans ((hb7.trans (hbV7.mono hb7.size)).mono HB6.out.size))
      have HBY7 := hid (HBY6.out.kept kk7)
      have HBZ7 := hid (hBz.kept (Kept.of_below hbV7))
      have hbf := both_fit (F := fun L => drop L s) (G := fun _ => [s]) HCY.out hcz
      clear hb7 hMz hcz hBz hbV7 kk7 m0 m1 m2 y0 y1 y2 HLS6 HB6 HBY6 HCY hV6
      rcases hbf with ⟨rfl, hne⟩ | ⟨rfl, rfl, hq0, hmem, hye, hze⟩
      · have d1 : (kz != 0) = true := bne_iff_ne.2 hne
        clear hne
        go_wp2_with fail
        refine (matched_true V7).mono ?_
        rintro e wm ⟨rfl, hbm⟩
        have HBM := hid (HB7.out.trans (hbm.mono HB7.out.size))
        clear hbm
        go_wp2_with fail
        go_ret
        exact ⟨rfl, HBM.out⟩
      have hr := askOf_range hq0
      have hgf := Rise_fit HG.out hff.out
      have HYC : Hid (y.check = 0 ∧ y.small) := hid (by
        rw [hye]
        exact ⟨Board.refit_check HC.out (hgf.sub (drop_sub _ _)), Board.refit_small HS.out (Nat.le_trans (drop_sub _ _).length_le (fit_short HS.out))⟩)
      have HZC : Hid (z.check = 0 ∧ z.small) := hid (by
        rw [hze]
        exact ⟨Board.refit_check HC.out (rise_one hr.2.2.2.1 (by have := hr.2.2.2.2; omega)), Board.refit_small HS.out (by simp)⟩)
      have HYL : Hid (y.chances.length = b.chances.length) := hid (by rw [chances_len, chances_len, hye]; rfl)
      have HZL : Hid (z.chances.length = b.chances.length) := hid (by rw [chances_len, chances_len, hze]; rfl)
      have hyf : fn < y.fits.length := by rw [hye]; simpa [Board.refit] using hff.out
      have HYF := hid hyf
      have HYN : Hid (0 < (y.fits[fn]'(HYF.out)).length → ∀ k (h : k < y.chances.length) (h' : k < b.chances.length), ∀ v ∈ y.chances[k], v ∈ b.chances[k]) := hid (by
        subst hye
        intro h0 k h h' v hv
        rw [chances_at] at hv ⊢
        rw [refit_at] at h0
        exact chance_refit hff.out (fun x hx => (drop_sub _ _).subset hx) (List.ne_nil_of_length_pos h0) hv)
      have HZN : Hid (∀ k (h : k < z.chances.length) (h' : k < b.chances.length), ∀ v ∈ z.chances[k], v ∈ b.chances[k]) := hid (by
        subst hze
        intro k h h' v hv
        rw [chances_at] at hv ⊢
        exact chance_refit hff.out (by simpa using hmem) (by simp) hv)
      have HZE : Hid ((∃ a, z.As a) ↔ canB b.fits (pieces b.slots) fn s = true) := hid (by rw [hze]; exact fixed_iff hff.out hmem)
      have HQ0 := hid hq0
      clear hr hgf hye hze hmem hq0 hyf
      go_wp2_with fail
      refine (everyChance_any y Yf Ys Yt yf ys yt V7 HYC.out.2 HBY7.out).mono ?_
      rintro e w8 ⟨hb8, hpost⟩
      have m0 := (Kept.of_below hb8) _ _ k0
      have m1 := (Kept.of_below hb8) _ _ k1
      have m2 := (Kept.of_below hb8) _ _ k2
      have y2 := (Kept.of_below hb8) _ _ u2
      have q0 := (Kept.of_below hb8) _ _ z0
      have q1 := (Kept.of_below hb8) _ _ z1
      have q2 := (Kept.of_below hb8) _ _ z2
      have HLS8 := hid (HLS7.out.kept (Kept.of_below hb8))
      have HBY8 := hid (HBY7.out.kept (Kept.of_below hb8))
      have HBZ8 := hid (HBZ7.out.kept (Kept.of_below hb8))
      have HB8 := hid (HB7.out.trans (hb8.mono HB7.out.size))
      clear hb8 k0 k1 k2 u0 u1 u2 z0 z1 z2 HLS7 HBY7 HBZ7 HB7 hV7
      rcases hpost with ⟨hne, _⟩ | ⟨_, _, rfl⟩ | ⟨_, _, AY, cY, uy, rfl, hown, hli⟩
      · exact absurd HYC.out.1 hne
      · go_wp2_with fail
        refine (everyChance_any z Zf Zs Zt zf zs zt w8 HZC.out.2 HBZ8.out).mono ?_
        rintro e w9 ⟨hb9, hpost⟩
        have k0 := (Kept.of_below hb9) _ _ m0
        have k1 := (Kept.of_below hb9) _ _ m1
        have k2 := (Kept.of_below hb9) _ _ m2
        have u2 := (Kept.of_below hb9) _ _ y2
        have HLS9 := hid (HLS8.out.kept (Kept.of_below hb9))
        have HBY9 := hid (HBY8.out.kept (Kept.of_below hb9))
        have HB9 := hid (HB8.out.trans (hb9.mono HB8.out.size))
        clear hb9 m0 m1 m2 y2 q0 q1 q2 HLS8 HBY8 HBZ8 HB8
        rcases hpost with ⟨hne, _⟩ | ⟨_, hnz, rfl⟩ | ⟨_, hez, AZ, cZ, uz, rfl, hown, hli⟩
        · exact absurd HZC.out.1 hne
        · have HCAN : Hid (canB b.fits (pieces b.slots) fn s = false) := hid (Bool.eq_false_iff.2 (fun h => hnz (HZE.out.2 h)))
          clear hnz
          go_wp2_with fail
          refine (may_any b Af As At cf cs ct w9 HS.out (hB0.out.kept (Kept.of_below HB9.out)) (fn : Int) s).mono ?_
          rintro e w10 ⟨hb10, hpost⟩
          rcases hpost with ⟨hne, _⟩ | ⟨_, hno, _⟩ | ⟨_, _, rfl⟩
          · exact absurd HQ0.out hne
          · exact absurd HEX.out hno
          rw [Int.toNat_natCast, HCAN.out]
          have v2 := (Kept.of_below hb10) _ _ u2
          have HLS10 := hid (HLS9.out.kept (Kept.of_below hb10))
          have HB10 := hid (HB9.out.trans (hb10.mono HB9.out.size))
          obtain ⟨yb, yoff, rfl, hyc⟩ := (HBY9.out.fits.kept (Kept.of_below hb10)) (by have := HYF.out; omega)
          obtain ⟨Rj, rj, r1, _⟩ := hyc fn HYF.out
          have i0 : (0 : Int) ≤ fn := by omega
          have i1 : (fn : Int) < y.fits.length := by have := HYF.out; omega
          have HYN2 := hid HYN.out
          obtain ⟨N, hN⟩ : ∃ N, (y.fits[fn]'(HYF.out)).length = N := ⟨_, rfl⟩
          rw [hN] at r1
          have HNN : Hid (0 < N → ∀ k (h : k < y.chances.length) (h' : k < b.chances.length), ∀ v ∈ y.chances[k], v ∈ b.chances[k]) := hid (fun h => HYN.out (by rw [hN]; exact h))
          clear hb10 hyc hN k0 k1 k2 u2 HYN2
          rcases Nat.eq_zero_or_pos N with hN0 | hN0
          · subst hN0
            go_wp2_with fail
            refine (matched_true w10).mono ?_
            rintro e wm ⟨rfl, hbm⟩
            have HBM := hid (HB10.out.trans (hbm.mono HB10.out.size))
            clear hbm
            go_wp2_with fail
            go_ret
            exact ⟨rfl, HBM.out⟩
          · have hN1 : (0 : Int) < N := by omega
            go_wp2_with fail
            refine (matched_true w10).mono ?_
            rintro e wm ⟨rfl, hbm⟩
            have HBM := hid (HB10.out.trans (hbm.mono HB10.out.size))
            clear hbm
            go_wp2_with fail
            go_ret
            exact ⟨rfl, HBM.out⟩
        · have HCAN : Hid (canB b.fits (pieces b.slots) fn s = true) := hid (HZE.out.1 hez)
          have HLZ9 := hid (hli.fits hown)
          clear hown hli hez
          go_wp2_with fail
          refine (may_any b Af As At cf cs ct w9 HS.out (hB0.out.kept (Kept.of_below HB9.out)) (fn : Int) s).mono ?_
          rintro e w10 ⟨hb10, hpost⟩
          rcases hpost with ⟨hne, _⟩ | ⟨_, hno, _⟩ | ⟨_, _, rfl⟩
          · exact absurd HQ0.out hne
          · exact absurd HEX.out hno
          rw [Int.toNat_natCast, HCAN.out]
          have v2 := (Kept.of_below hb10) _ _ u2
          have HLS10 := hid (HLS9.out.kept (Kept.of_below hb10))
          have HB10 := hid (HB9.out.trans (hb10.mono HB9.out.size))
          obtain ⟨yb, yoff, rfl, hyc⟩ := (HBY9.out.fits.kept (Kept.of_below hb10)) (by have := HYF.out; omega)
          obtain ⟨Rj, rj, r1, _⟩ := hyc fn HYF.out
          have HLZ10 := hid (HLZ9.out.kept (Kept.of_below hb10))
          have i0 : (0 : Int) ≤ fn := by omega
          have i1 : (fn : Int) < y.fits.length := by have := HYF.out; omega
          have HYN2 := hid HYN.out
          obtain ⟨N, hN⟩ : ∃ N, (y.fits[fn]'(HYF.out)).length = N := ⟨_, rfl⟩
          rw [hN] at r1
          have HNN : Hid (0 < N → ∀ k (h : k < y.chances.length) (h' : k < b.chances.length), ∀ v ∈ y.chances[k], v ∈ b.chances[k]) := hid (fun h => HYN.out (by rw [hN]; exact h))
          clear hb10 hyc hN k0 k1 k2 u2 HYN2
          rcases Nat.eq_zero_or_pos N with hN0 | hN0
          · subst hN0
            go_wp2_with fail
            refine (narrower_any AZ AL cZ cL z.chances b.chances w10 (by have := HZL.out; omega) (by omega) (fun l hl => by have := chances_short HZC.out.2 l hl; omega) (fun l hl => by have := chances_short HS.out l hl; omega) (HLZ10.out) (HLS10.out) HZL.out HZN.out).mono ?_
            rintro e wd ⟨rfl, nn0, rfl⟩
            have HBn0 : Hid (Below w.heap.size w (w10.drewN nn0)) := hid (Below.drewN' HB10.out nn0)
            go_wp2_with fail
            refine (matched_true (w10.drewN nn0)).mono ?_
            rintro e wm ⟨rfl, hbm⟩
            have HBM := hid (HBn0.out.trans (hbm.mono HBn0.out.size))
            clear hbm
            go_wp2_with fail
            go_ret
            exact ⟨rfl, HBM.out⟩
          · have hN1 : (0 : Int) < N := by omega
            go_wp2_with fail
            refine (narrower_any AZ AL cZ cL z.chances b.chances w10 (by have := HZL.out; omega) (by omega) (fun l hl => by have := chances_short HZC.out.2 l hl; omega) (fun l hl => by have := chances_short HS.out l hl; omega) (HLZ10.out) (HLS10.out) HZL.out HZN.out).mono ?_
            rintro e wd ⟨rfl, nn0, rfl⟩
            have HBn0 : Hid (Below w.heap.size w (w10.drewN nn0)) := hid (Below.drewN' HB10.out nn0)
            go_wp2_with fail
            refine (matched_true (w10.drewN nn0)).mono ?_
            rintro e wm ⟨rfl, hbm⟩
            have HBM := hid (HBn0.out.trans (hbm.mono HBn0.out.size))
            clear hbm
            go_wp2_with fail
            go_ret
            exact ⟨rfl, HBM.out⟩
      · have HLY8 := hid (hli.fits hown)
        clear hown hli
        go_wp2_with fail
        refine (everyChance_any z Zf Zs Zt zf zs zt w8 HZC.out.2 HBZ8.out).mono ?_
        rintro e w9 ⟨hb9, hpost⟩
        have k0 := (Kept.of_below hb9) _ _ m0
        have k1 := (Kept.of_below hb9) _ _ m1
        have k2 := (Kept.of_below hb9) _ _ m2
        have u2 := (Kept.of_below hb9) _ _ y2
        have HLS9 := hid (HLS8.out.kept (Kept.of_below hb9))
        have HBY9 := hid (HBY8.out.kept (Kept.of_below hb9))
        have HB9 := hid (HB8.out.trans (hb9.mono HB8.out.size))
        have HLY9 := hid (HLY8.out.kept (Kept.of_below hb9))
        clear hb9 m0 m1 m2 y2 q0 q1 q2 HLS8 HBY8 HBZ8 HB8
        rcases hpost with ⟨hne, _⟩ | ⟨_, hnz, rfl⟩ | ⟨_, hez, AZ, cZ, uz, rfl, hown, hli⟩
        · exact absurd HZC.out.1 hne
        · have HCAN : Hid (canB b.fits (pieces b.slots) fn s = false) := hid (Bool.eq_false_iff.2 (fun h => hnz (HZE.out.2 h)))
          clear hnz
          go_wp2_with fail
          refine (may_any b Af As At cf cs ct w9 HS.out (hB0.out.kept (Kept.of_below HB9.out)) (fn : Int) s).mono ?_
          rintro e w10 ⟨hb10, hpost⟩
          rcases hpost with ⟨hne, _⟩ | ⟨_, hno, _⟩ | ⟨_, _, rfl⟩
          · exact absurd HQ0.out hne
          · exact absurd HEX.out hno
          rw [Int.toNat_natCast, HCAN.out]
          have v2 := (Kept.of_below hb10) _ _ u2
          have HLS10 := hid (HLS9.out.kept (Kept.of_below hb10))
          have HB10 := hid (HB9.out.trans (hb10.mono HB9.out.size))
          obtain ⟨yb, yoff, rfl, hyc⟩ := (HBY9.out.fits.kept (Kept.of_below hb10)) (by have := HYF.out; omega)
          obtain ⟨Rj, rj, r1, _⟩ := hyc fn HYF.out
          have HLY10 := hid (HLY9.out.kept (Kept.of_below hb10))
          have i0 : (0 : Int) ≤ fn := by omega
          have i1 : (fn : Int) < y.fits.length := by have := HYF.out; omega
          have HYN2 := hid HYN.out
          obtain ⟨N, hN⟩ : ∃ N, (y.fits[fn]'(HYF.out)).length = N := ⟨_, rfl⟩
          rw [hN] at r1
          have HNN : Hid (0 < N → ∀ k (h : k < y.chances.length) (h' : k < b.chances.length), ∀ v ∈ y.chances[k], v ∈ b.chances[k]) := hid (fun h => HYN.out (by rw [hN]; exact h))
          clear hb10 hyc hN k0 k1 k2 u2 HYN2
          rcases Nat.eq_zero_or_pos N with hN0 | hN0
          · subst hN0
            go_wp2_with fail
            refine (matched_true w10).mono ?_
            rintro e wm ⟨rfl, hbm⟩
            have HBM := hid (HB10.out.trans (hbm.mono HB10.out.size))
            clear hbm
            go_wp2_with fail
            go_ret
            exact ⟨rfl, HBM.out⟩
          · have hN1 : (0 : Int) < N := by omega
            go_wp2_with fail
            refine (narrower_any AY AL cY cL y.chances b.chances w10 (by have := HYL.out; omega) (by omega) (fun l hl => by have := chances_short HYC.out.2 l hl; omega) (fun l hl => by have := chances_short HS.out l hl; omega) (HLY10.out) (HLS10.out) HYL.out (HNN.out (by omega))).mono ?_
            rintro e wd ⟨rfl, nn0, rfl⟩
            have HBn0 : Hid (Below w.heap.size w (w10.drewN nn0)) := hid (Below.drewN' HB10.out nn0)
            go_wp2_with fail
            refine (matched_true (w10.drewN nn0)).mono ?_
            rintro e wm ⟨rfl, hbm⟩
            have HBM := hid (HBn0.out.trans (hbm.mono HBn0.out.size))
            clear hbm
            go_wp2_with fail
            go_ret
            exact ⟨rfl, HBM.out⟩
        · have HCAN : Hid (canB b.fits (pieces b.slots) fn s = true) := hid (HZE.out.1 hez)
          have HLZ9 := hid (hli.fits hown)
          clear hown hli hez
          go_wp2_with fail
          refine (may_any b Af As At cf cs ct w9 HS.out (hB0.out.kept (Kept.of_below HB9.out)) (fn : Int) s).mono ?_
          rintro e w10 ⟨hb10, hpost⟩
          rcases hpost with ⟨hne, _⟩ | ⟨_, hno, _⟩ | ⟨_, _, rfl⟩
          · exact absurd HQ0.out hne
          · exact absurd HEX.out hno
          rw [Int.toNat_natCast, HCAN.out]
          have v2 := (Kept.of_below hb10) _ _ u2
          have HLS10 := hid (HLS9.out.kept (Kept.of_below hb10))
          have HB10 := hid (HB9.out.trans (hb10.mono HB9.out.size))
          obtain ⟨yb, yoff, rfl, hyc⟩ := (HBY9.out.fits.kept (Kept.of_below hb10)) (by have := HYF.out; omega)
          obtain ⟨Rj, rj, r1, _⟩ := hyc fn HYF.out
          have HLY10 := hid (HLY9.out.kept (Kept.of_below hb10))
          have HLZ10 := hid (HLZ9.out.kept (Kept.of_below hb10))
          have i0 : (0 : Int) ≤ fn := by omega
          have i1 : (fn : Int) < y.fits.length := by have := HYF.out; omega
          have HYN2 := hid HYN.out
          obtain ⟨N, hN⟩ : ∃ N, (y.fits[fn]'(HYF.out)).length = N := ⟨_, rfl⟩
          rw [hN] at r1
          have HNN : Hid (0 < N → ∀ k (h : k < y.chances.length) (h' : k < b.chances.length), ∀ v ∈ y.chances[k], v ∈ b.chances[k]) := hid (fun h => HYN.out (by rw [hN]; exact h))
          clear hb10 hyc hN k0 k1 k2 u2 HYN2
          rcases Nat.eq_zero_or_pos N with hN0 | hN0
          · subst hN0
            go_wp2_with fail
            refine (narrower_any AZ AL cZ cL z.chances b.chances w10 (by have := HZL.out; omega) (by omega) (fun l hl => by have := chances_short HZC.out.2 l hl; omega) (fun l hl => by have := chances_short HS.out l hl; omega) (HLZ10.out) (HLS10.out) HZL.out HZN.out).mono ?_
            rintro e wd ⟨rfl, nn0, rfl⟩
            have HBn0 : Hid (Below w.heap.size w (w10.drewN nn0)) := hid (Below.drewN' HB10.out nn0)
            go_wp2_with fail
            refine (matched_true (w10.drewN nn0)).mono ?_
            rintro e wm ⟨rfl, hbm⟩
            have HBM := hid (HBn0.out.trans (hbm.mono HBn0.out.size))
            clear hbm
            go_wp2_with fail
            go_ret
            exact ⟨rfl, HBM.out⟩
          · have hN1 : (0 : Int) < N := by omega
            go_wp2_with fail
            refine (narrower_any AY AL cY cL y.chances b.chances w10 (by have := HYL.out; omega) (by omega) (fun l hl => by have := chances_short HYC.out.2 l hl; omega) (fun l hl => by have := chances_short HS.out l hl; omega) (HLY10.out) (HLS10.out) HYL.out (HNN.out (by omega))).mono ?_
            rintro e wd ⟨rfl, nn0, rfl⟩
            have HBn0 : Hid (Below w.heap.size w (w10.drewN nn0)) := hid (Below.drewN' HB10.out nn0)
            go_wp2_with fail
            refine (narrower_any AZ AL cZ cL z.chances b.chances (w10.drewN nn0) (by have := HZL.out; omega) (by omega) (fun l hl => by have := chances_short HZC.out.2 l hl; omega) (fun l hl => by have := chances_short HS.out l hl; omega) (HLZ10.out.kept (Kept.of_below (Below.drewN' (Below.refl _ _) nn0))) (HLS10.out.kept (Kept.of_below (Below.drewN' (Below.refl _ _) nn0))) HZL.out HZN.out).mono ?_
            rintro e wd ⟨rfl, nn1, rfl⟩
            have HBn1 : Hid (Below w.heap.size w ((w10.drewN nn0).drewN nn1)) := hid (Below.drewN' HBn0.out nn1)
            have HBn2 : Hid (Below w.heap.size w (w10.drewN (nn0 + nn1))) := hid (Below.drewN' HB10.out (nn0 + nn1))
            go_wp2_with fail
            refine (matched_true (w10.drewN (nn0 + nn1))).mono ?_
            rintro e wm ⟨rfl, hbm⟩
            have HBM := hid (HBn2.out.trans (hbm.mono HBn2.out.size))
            clear hbm
            go_wp2_with fail
            go_ret
            exact ⟨rfl, HBM.out⟩
end Go.Proofs.Ytpmdjbjnihhjeaa
