/- MatchOthers, walked: the law's function returns true. -/
import Derived.Test.YtpmdjbjnihhjeaaSame
import Derived.Test.YtpmdjbjnihhjeaaFitted
import Derived.Test.YtpmdjbjnihhjeaaLoadsLaw
import Derived.Test.YtpmdjbjnihhjeaaRefOthers
namespace Go.Proofs.Ytpmdjbjnihhjeaa
open Go.RowKit
set_option linter.unusedSimpArgs false

theorem small_nil : Board.nil.small := ⟨by simp [Board.nil], by simp [Board.nil], by simp [Board.nil], by simp [Board.nil]⟩
theorem fit_same {q ky kz : Int} {b y z : Board} {f s : Int} {F : List Int → List Int}
    (hy : (q ≠ 0 ∧ ky = q ∧ y = Board.nil) ∨ (q = 0 ∧ s ∉ fitOf b.fits f.toNat ∧ ky = 5 ∧ y = Board.nil) ∨ (q = 0 ∧ s ∈ fitOf b.fits f.toNat ∧ ky = 0 ∧ y = b.refit f.toNat (F (fitOf b.fits f.toNat))))
    (hz : (q ≠ 0 ∧ kz = q ∧ z = Board.nil) ∨ (q = 0 ∧ s ∉ fitOf b.fits f.toNat ∧ kz = 5 ∧ z = Board.nil) ∨ (q = 0 ∧ s ∈ fitOf b.fits f.toNat ∧ kz = 0 ∧ z = b.refit f.toNat (F (fitOf b.fits f.toNat)))) :
    kz = ky ∧ z = y := by
  rcases hy with ⟨h1, h2, h3⟩ | ⟨h1, h2, h3, h4⟩ | ⟨h1, h2, h3, h4⟩ <;> rcases hz with ⟨g1, g2, g3⟩ | ⟨g1, g2, g3, g4⟩ | ⟨g1, g2, g3, g4⟩
  · exact ⟨by omega, by rw [h3, g3]⟩
  · exact absurd g1 h1
  · exact absurd g1 h1
  · exact absurd h1 g1
  · exact ⟨by omega, by rw [h4, g4]⟩
  · exact absurd g2 h2
  · exact absurd h1 g1
  · exact absurd h2 g2
  · exact ⟨by omega, by rw [h4, g4]⟩
theorem fit_small {q ky : Int} {b y : Board} {f s : Int} {F : List Int → List Int} (hb : b.small) (hF : ∀ L, L.length ≤ 60 → (F L).length ≤ 60)
    (hy : (q ≠ 0 ∧ ky = q ∧ y = Board.nil) ∨ (q = 0 ∧ s ∉ fitOf b.fits f.toNat ∧ ky = 5 ∧ y = Board.nil) ∨ (q = 0 ∧ s ∈ fitOf b.fits f.toNat ∧ ky = 0 ∧ y = b.refit f.toNat (F (fitOf b.fits f.toNat)))) : y.small := by
  rcases hy with ⟨_, _, rfl⟩ | ⟨_, _, _, rfl⟩ | ⟨_, _, _, rfl⟩
  · exact small_nil
  · exact small_nil
  · refine ⟨hb.1, hb.2.1, by simpa [Board.refit] using hb.2.2.1, fun l hl => ?_⟩
    rcases List.mem_or_eq_of_mem_set hl with h1 | rfl
    · exact hb.2.2.2 l h1
    · refine hF _ ?_
      by_cases h : f.toNat < b.fits.length
      · rw [fitOf_lt h]; exact hb.2.2.2 _ (List.getElem_mem _)
      · rw [fitOf_ge (by omega)]; simp
theorem without_little {b : Board} {q : Int} {f : Nat} (hb : b.small) : (if q = 0 then b.without f else Board.nil).small := by
  split
  · exact ⟨Nat.le_trans (List.length_eraseIdx_le _ _) hb.1, hb.2.1, Nat.le_trans (List.length_eraseIdx_le _ _) hb.2.2.1, fun l hl => hb.2.2.2 l (List.mem_of_mem_eraseIdx hl)⟩
  · exact small_nil
theorem far_cell {w : World} {cb bw o : Nat} {v x0 x1 x2 : Value} (h : w.cell? ⟨bw, o, none⟩ = some v) (hne : bw ≠ cb) : (((w.setCell ⟨cb, 0, none⟩ x0).setCell ⟨cb, 1, none⟩ x1).setCell ⟨cb, 2, none⟩ x2).cell? ⟨bw, o, none⟩ = some v :=
  (((((Only.refl [cb] w).setCell (by simp) x0).setCell (by simp) x1).setCell (by simp) x2).cell (p := ⟨bw, o, none⟩) (cell_lt h) (by simpa using hne)).trans h
theorem far_block {w : World} {cb rb : Nat} {x0 x1 x2 : Value} {o : Obj} (h : w.heap[rb]? = some o) (hne : rb ≠ cb) : (((w.setCell ⟨cb, 0, none⟩ x0).setCell ⟨cb, 1, none⟩ x1).setCell ⟨cb, 2, none⟩ x2).heap[rb]? = some o :=
  (((((Only.refl [cb] w).setCell (by simp) x0).setCell (by simp) x1).setCell (by simp) x2).block rb (Array.getElem?_eq_some_iff.1 h).1 (by simpa using hne)).trans h

set_option maxRecDepth 100000 in
set_option maxHeartbeats 32000000 in
theorem matchOthers_any (b : Board) (Af As At : Option Addr) (cf cs ct : Nat) (f s : Int) (w : World) (hB : BoardAt w Af As At b) :
    Calls Try.prog 9 #[.agg #[.slice Af b.finds.length cf, .slice As b.slots.length cs, .slice At b.fits.length ct], .int .i64 f, .int .i64 s] w (LawPost w) := by
  obtain ⟨W, hW, b0, b1, b2, hbW, hz⟩ := box3 w (.slice Af b.finds.length cf) (.slice As b.slots.length cs) (.slice At b.fits.length ct) 26
  have HBW := hid hbW
  have hBW := hid (hB.kept (Kept.of_below hbW))
  have hB0 := hid hB
  clear hz hbW hB
  go_enter Try.func9, Try.ntmps9
  go_wp2_with fail
  refine (wide_any b Af As At cf cs ct W hBW.out).mono ?_
  rintro e w1 ⟨t, rfl, hb1, hw1⟩
  have k0 := (Kept.of_below hb1) _ _ b0
  have k1 := (Kept.of_below hb1) _ _ b1
  have k2 := (Kept.of_below hb1) _ _ b2
  have HB1 := hid (HBW.out.trans (hb1.mono HBW.out.size))
  clear hb1 hW b0 b1 b2 hBW HBW
  rcases t with _ | _
  case false =>
    go_wp2_with fail
    refine (matched_true w1).mono ?_
    rintro e wm ⟨rfl, hbm⟩
    have HBM := hid (HB1.out.trans (hbm.mono HB1.out.size))
    clear hbm
    go_wp2_with fail
    go_ret
    exact ⟨rfl, HBM.out⟩
  have HS := hid (hw1 rfl).1
  clear hw1
  have hA1 := without_any b Af As At cf cs ct w1 HS.out (hB0.out.kept (Kept.of_below HB1.out)) f
  have hA2 := fun w2 (h : Below w.heap.size w w2) => refWithout_any b Af As At cf cs ct w2 HS.out (hB0.out.kept (Kept.of_below h)) f
  have hds := without_little (b := b) (q := askOf b f 0 false true) (f := f.toNat) HS.out
  generalize (if askOf b f 0 false true = 0 then b.without f.toNat else Board.nil) = d at hA1 hA2 hds
  generalize askOf b f 0 false true = q at hA1 hA2
  have HA1 := hid hA1
  have HA2 := hid hA2
  have HDS := hid hds
  have dq : (q != q) = false := by simp
  clear hA1 hA2 hds
  go_wp2_with fail
  refine HA1.out.mono ?_
  rintro e w2 ⟨hb2, Xf, xf, Xs, xs, Xt, xt, rfl, hBX⟩
  obtain ⟨V2, hV2, y0, y1, y2, hbV2, _⟩ := box3 w2 (.slice Xf d.finds.length xf) (.slice Xs d.slots.length xs) (.slice Xt d.fits.length xt) 26
  have kk := (Kept.of_below hb2).trans (Kept.of_below hbV2)
  have m0 := kk _ _ k0
  have m1 := kk _ _ k1
  have m2 := kk _ _ k2
  have HBX := hid (hBX.kept (Kept.of_below hbV2))
  have HB2 := hid (HB1.out.trans ((hb2.trans (hbV2.mono hb2.size)).mono HB1.out.size))
  have C1 : Hid (V2.heap[w2.heap.size]? = some (.cells #[.slice Xf d.finds.length xf, .slice Xs d.slots.length xs, .slice Xt d.fits.length xt] 26 (0, 0))) := hid (by rw [← hV2]; exact heap_alloc_new _ _)
  have LW : Hid (w.heap.size < w2.heap.size) := hid (Nat.lt_of_lt_of_le (cell_lt k0) hb2.size)
  clear hb2 hbV2 hBX kk k0 k1 k2 HB1 HA1
  go_wp2_with fail
  refine (HA2.out V2 HB2.out).mono ?_
  rintro e w3 ⟨hb3, Zf, zf, Zs, zs, Zt, zt, rfl, hBZ⟩
  obtain ⟨V3, hV3, z0, z1, z2, hbV3, _⟩ := box3 w3 (.slice Zf d.finds.length zf) (.slice Zs d.slots.length zs) (.slice Zt d.fits.length zt) 26
  have kk := (Kept.of_below hb3).trans (Kept.of_below hbV3)
  have k0 := kk _ _ m0
  have k1 := kk _ _ m1
  have k2 := kk _ _ m2
  have a0 := kk _ _ y0
  have a1 := kk _ _ y1
  have a2 := kk _ _ y2
  have hbX3 := hid (HBX.out.kept kk)
  have hbZ3 := hid (hBZ.kept (Kept.of_below hbV3))
  have HB3 := hid (HB2.out.trans ((hb3.trans (hbV3.mono hb3.size)).mono HB2.out.size))
  have hl2 : w2.heap.size < V2.heap.size := cell_lt y0
  have C1' := hid ((hbV3.block w2.heap.size (Nat.lt_of_lt_of_le hl2 hb3.size)).trans ((hb3.block w2.heap.size hl2).trans C1.out))
  have C2' : Hid (V3.heap[w3.heap.size]? = some (.cells #[.slice Zf d.finds.length zf, .slice Zs d.slots.length zs, .slice Zt d.fits.length zt] 26 (0, 0))) := hid (by rw [← hV3]; exact heap_alloc_new _ _)
  have LZ : Hid (w2.heap.size < w3.heap.size) := hid (Nat.lt_of_lt_of_le hl2 hb3.size)
  clear hb3 hbV3 hBZ kk m0 m1 m2 y0 y1 y2 HB2 HBX C1 HA2 hV2 hl2
  go_wp2_with fail
  refine (sameBoard_true d Xf Xs Xt Zf Zs Zt xf xs xt zf zs zt V3 (by have := HDS.out.1; omega) (by have := HDS.out.2.1; omega) (by have := HDS.out.2.2.1; omega) (fun l hl => by have := HDS.out.2.2.2 l hl; omega) hbX3.out hbZ3.out).mono ?_
  rintro e w4 ⟨rfl, hb4⟩
  obtain ⟨cb1, hc1⟩ : ∃ c, w2.heap.size = c := ⟨_, rfl⟩
  obtain ⟨cb2, hc2⟩ : ∃ c, w3.heap.size = c := ⟨_, rfl⟩
  have k40 := (Kept.of_below hb4) _ _ k0
  have k41 := (Kept.of_below hb4) _ _ k1
  have k42 := (Kept.of_below hb4) _ _ k2
  have C14 : Hid (∃ p0 p1 p2, w4.heap[w2.heap.size]? = some (.cells #[p0, p1, p2] 26 (0, 0))) := hid ⟨_, _, _, (hb4.block _ (cell_lt a0)).trans C1'.out⟩
  have C24 : Hid (∃ p0 p1 p2, w4.heap[w3.heap.size]? = some (.cells #[p0, p1, p2] 26 (0, 0))) := hid ⟨_, _, _, (hb4.block _ (cell_lt z0)).trans C2'.out⟩
  have HB4 := hid (HB3.out.trans (hb4.mono HB3.out.size))
  have LL : Hid (w.heap.size < w2.heap.size ∧ w2.heap.size < w3.heap.size) := hid ⟨LW.out, LZ.out⟩
  clear hb4 k0 k1 k2 a0 a1 a2 z0 z1 z2 HB3 hbX3 hbZ3 C1' C2' LW LZ hV3 hc1 hc2 cb1 cb2
  go_wp2_with fail
  refine (barred_any b Af As At cf cs ct w4 HS.out (hB0.out.kept (Kept.of_below HB4.out)) f s).mono ?_
  rintro e w5 ⟨ky1, y1, ⟨hbb, vf, vs, vt, rfl, hMy⟩, hcy⟩
  obtain ⟨Yf1, yf1, Ys1, ys1, Yt1, yt1, rfl, rfl, rfl, _⟩ := hMy.boardAt
  obtain ⟨p0, p1, p2, hp⟩ := C14.out
  obtain ⟨r0, r1, r2, hr⟩ := C24.out
  have hp2 := (hbb.block _ (Array.getElem?_eq_some_iff.1 hp).1).trans hp
  have hr2 := (hbb.block _ (Array.getElem?_eq_some_iff.1 hr).1).trans hr
  have k0 := (Kept.of_below hbb) _ _ k40
  have k1 := (Kept.of_below hbb) _ _ k41
  have k2 := (Kept.of_below hbb) _ _ k42
  have e0 : w5.cell? ⟨w2.heap.size, 0, none⟩ = some p0 := by simp [World.cell?, hp2]
  have e1 : w5.cell? ⟨w2.heap.size, 1, none⟩ = some p1 := by simp [World.cell?, hp2]
  have e2 : w5.cell? ⟨w2.heap.size, 2, none⟩ = some p2 := by simp [World.cell?, hp2]
  have e3 : ∀ o, w5.frozen? ⟨w2.heap.size, o, none⟩ = false := fun o => by simp [World.frozen?, hp2]
  obtain ⟨V1b, hVb⟩ : ∃ V, ((w5.setCell ⟨w2.heap.size, 0, none⟩ (.slice Yf1 y1.finds.length yf1)).setCell ⟨w2.heap.size, 1, none⟩ (.slice Ys1 y1.slots.length ys1)).setCell ⟨w2.heap.size, 2, none⟩ (.slice Yt1 y1.fits.length yt1) = V := ⟨_, rfl⟩
  have HBb := hid (HB4.out.trans (hbb.mono HB4.out.size))
  have HBV : Hid (Below w.heap.size w V1b) := hid (by rw [← hVb]; exact below_set3 HBb.out (Nat.le_of_lt LL.out.1))
  have HMY : Hid (MadeAt w4.heap.size V1b (.slice Yf1 y1.finds.length yf1) (.slice Ys1 y1.slots.length ys1) (.slice Yt1 y1.fits.length yt1) y1) := hid (by rw [← hVb]; exact hMy.set3 hp2)
  have l0 : V1b.cell? ⟨w.heap.size, 0, none⟩ = some (.slice Af b.finds.length cf) := by rw [← hVb]; exact far_cell k0 (Nat.ne_of_lt LL.out.1)
  have l1 : V1b.cell? ⟨w.heap.size, 1, none⟩ = some (.slice As b.slots.length cs) := by rw [← hVb]; exact far_cell k1 (Nat.ne_of_lt LL.out.1)
  have l2 : V1b.cell? ⟨w.heap.size, 2, none⟩ = some (.slice At b.fits.length ct) := by rw [← hVb]; exact far_cell k2 (Nat.ne_of_lt LL.out.1)
  have B1 : Hid (V1b.heap[w2.heap.size]? = some (.cells #[.slice Yf1 y1.finds.length yf1, .slice Ys1 y1.slots.length ys1, .slice Yt1 y1.fits.length yt1] 26 (0, 0))) := hid (by rw [← hVb]; exact set3 hp2)
  have B2 : Hid (V1b.heap[w3.heap.size]? = some (.cells #[r0, r1, r2] 26 (0, 0))) := hid (by rw [← hVb]; exact far_block hr2 (Nat.ne_of_gt LL.out.2))
  have HCY := hid hcy
  clear hbb hMy hcy hp hr hp2 hr2 k0 k1 k2 k40 k41 k42 HB4 HBb C14 C24
  go_wp2_with fail
  clear e0 e1 e2 e3 hVb
  refine (refBarred_any b Af As At cf cs ct V1b HS.out (hB0.out.kept (Kept.of_below HBV.out)) f s).mono ?_
  rintro e w6 ⟨kz, z, ⟨hbc, vf, vs, vt, rfl, hMz⟩, hcz⟩
  obtain ⟨rfl, rfl⟩ := fit_same (F := fun L => drop L s) HCY.out hcz
  obtain ⟨Zf1, zf1, Zs1, zs1, Zt1, zt1, rfl, rfl, rfl, _⟩ := hMz.boardAt
  have hp2 := (hbc.block _ (Array.getElem?_eq_some_iff.1 B1.out).1).trans B1.out
  have hr2 := (hbc.block _ (Array.getElem?_eq_some_iff.1 B2.out).1).trans B2.out
  have k0 := (Kept.of_below hbc) _ _ l0
  have k1 := (Kept.of_below hbc) _ _ l1
  have k2 := (Kept.of_below hbc) _ _ l2
  have e0 : w6.cell? ⟨w3.heap.size, 0, none⟩ = some r0 := by simp [World.cell?, hr2]
  have e1 : w6.cell? ⟨w3.heap.size, 1, none⟩ = some r1 := by simp [World.cell?, hr2]
  have e2 : w6.cell? ⟨w3.heap.size, 2, none⟩ = some r2 := by simp [World.cell?, hr2]
  have e3 : ∀ o, w6.frozen? ⟨w3.heap.size, o, none⟩ = false := fun o => by simp [World.frozen?, hr2]
  obtain ⟨V1c, hVc⟩ : ∃ V, ((w6.setCell ⟨w3.heap.size, 0, none⟩ (.slice Zf1 z.finds.length zf1)).setCell ⟨w3.heap.size, 1, none⟩ (.slice Zs1 z.slots.length zs1)).setCell ⟨w3.heap.size, 2, none⟩ (.slice Zt1 z.fits.length zt1) = V := ⟨_, rfl⟩
  have HBc := hid (HBV.out.trans (hbc.mono HBV.out.size))
  have HBW : Hid (Below w.heap.size w V1c) := hid (by rw [← hVc]; exact below_set3 HBc.out (Nat.le_of_lt (Nat.lt_trans LL.out.1 LL.out.2)))
  have BY : Hid (BoardAt V1c Yf1 Ys1 Yt1 z) := hid (by
    obtain ⟨_, _, _, _, _, _, h1, h2, h3, h4⟩ := ((HMY.out.below hbc).set3 (a := .slice Zf1 z.finds.length zf1) (x := .slice Zs1 z.slots.length zs1) (c := .slice Zt1 z.fits.length zt1) hr2).boardAt
    cases h1; cases h2; cases h3
    rw [← hVc]; exact h4)
  have BZ : Hid (BoardAt V1c Zf1 Zs1 Zt1 z) := hid (by
    obtain ⟨_, _, _, _, _, _, h1, h2, h3, h4⟩ := (hMz.set3 (a := .slice Zf1 z.finds.length zf1) (x := .slice Zs1 z.slots.length zs1) (c := .slice Zt1 z.fits.length zt1) hr2).boardAt
    cases h1; cases h2; cases h3
    rw [← hVc]; exact h4)
  have hne3 : w.heap.size ≠ w3.heap.size := Nat.ne_of_lt (Nat.lt_trans LL.out.1 LL.out.2)
  have l0 : V1c.cell? ⟨w.heap.size, 0, none⟩ = some (.slice Af b.finds.length cf) := by rw [← hVc]; exact far_cell k0 hne3
  have l1 : V1c.cell? ⟨w.heap.size, 1, none⟩ = some (.slice As b.slots.length cs) := by rw [← hVc]; exact far_cell k1 hne3
  have l2 : V1c.cell? ⟨w.heap.size, 2, none⟩ = some (.slice At b.fits.length ct) := by rw [← hVc]; exact far_cell k2 hne3
  have D2 : V1c.heap[w3.heap.size]? = some (.cells #[.slice Zf1 z.finds.length zf1, .slice Zs1 z.slots.length zs1, .slice Zt1 z.fits.length zt1] 26 (0, 0)) := by rw [← hVc]; exact set3 hr2
  have D1 : V1c.heap[w2.heap.size]? = some (.cells #[.slice Yf1 z.finds.length yf1, .slice Ys1 z.slots.length ys1, .slice Yt1 z.fits.length yt1] 26 (0, 0)) := by rw [← hVc]; exact far_block hp2 (Nat.ne_of_lt LL.out.2)
  have a0 : V1c.cell? ⟨w2.heap.size, 0, none⟩ = some (.slice Yf1 z.finds.length yf1) := by simp [World.cell?, D1]
  have a1 : V1c.cell? ⟨w2.heap.size, 1, none⟩ = some (.slice Ys1 z.slots.length ys1) := by simp [World.cell?, D1]
  have a2 : V1c.cell? ⟨w2.heap.size, 2, none⟩ = some (.slice Yt1 z.fits.length yt1) := by simp [World.cell?, D1]
  have c0 : V1c.cell? ⟨w3.heap.size, 0, none⟩ = some (.slice Zf1 z.finds.length zf1) := by simp [World.cell?, D2]
  have c1 : V1c.cell? ⟨w3.heap.size, 1, none⟩ = some (.slice Zs1 z.slots.length zs1) := by simp [World.cell?, D2]
  have c2 : V1c.cell? ⟨w3.heap.size, 2, none⟩ = some (.slice Zt1 z.fits.length zt1) := by simp [World.cell?, D2]
  have HD1 := hid D1
  have HD2 := hid D2
  have SM := hid (fit_small (F := fun L => drop L s) HS.out (by exact fun L h => Nat.le_trans (List.length_filter_le _ _) h) HCY.out)
  have dk : (kz != kz) = false := by simp
  have dk2 : (kz == kz) = true := by simp
  have HQ := hid hcz
  clear hbc hMz hcz hp2 hr2 k0 k1 k2 D1 D2 HBV HBc HMY HCY B1 B2 hne3
  go_wp2_with fail
  refine (sameBoard_true z Yf1 Ys1 Yt1 Zf1 Zs1 Zt1 yf1 ys1 yt1 zf1 zs1 zt1 V1c (by have := SM.out.1; omega) (by have := SM.out.2.1; omega) (by have := SM.out.2.2.1; omega) (fun l hl => by have := SM.out.2.2.2 l hl; omega) BY.out BZ.out).mono ?_
  rintro e w7 ⟨rfl, hb4⟩
  have k70 := (Kept.of_below hb4) _ _ l0
  have k71 := (Kept.of_below hb4) _ _ l1
  have k72 := (Kept.of_below hb4) _ _ l2
  have C17 : Hid (∃ p0 p1 p2, w7.heap[w2.heap.size]? = some (.cells #[p0, p1, p2] 26 (0, 0))) := hid ⟨_, _, _, (hb4.block _ (cell_lt a0)).trans HD1.out⟩
  have C27 : Hid (∃ p0 p1 p2, w7.heap[w3.heap.size]? = some (.cells #[p0, p1, p2] 26 (0, 0))) := hid ⟨_, _, _, (hb4.block _ (cell_lt c0)).trans HD2.out⟩
  have HB7 := hid (HBW.out.trans (hb4.mono HBW.out.size))
  clear hb4 l0 l1 l2 a0 a1 a2 c0 c1 c2 e0 e1 e2 e3 HBW BY BZ HD1 HD2 SM hVc dk dk2 HQ
  go_wp2_with fail
  refine (fixed_any b Af As At cf cs ct w7 HS.out (hB0.out.kept (Kept.of_below HB7.out)) f s).mono ?_
  rintro e w8 ⟨ky2, y2, ⟨hbb, vf, vs, vt, rfl, hMy⟩, hcy⟩
  obtain ⟨Yf2, yf2, Ys2, ys2, Yt2, yt2, rfl, rfl, rfl, _⟩ := hMy.boardAt
  obtain ⟨p0, p1, p2, hp⟩ := C17.out
  obtain ⟨r0, r1, r2, hr⟩ := C27.out
  have hp2 := (hbb.block _ (Array.getElem?_eq_some_iff.1 hp).1).trans hp
  have hr2 := (hbb.block _ (Array.getElem?_eq_some_iff.1 hr).1).trans hr
  have k0 := (Kept.of_below hbb) _ _ k70
  have k1 := (Kept.of_below hbb) _ _ k71
  have k2 := (Kept.of_below hbb) _ _ k72
  have e0 : w8.cell? ⟨w2.heap.size, 0, none⟩ = some p0 := by simp [World.cell?, hp2]
  have e1 : w8.cell? ⟨w2.heap.size, 1, none⟩ = some p1 := by simp [World.cell?, hp2]
  have e2 : w8.cell? ⟨w2.heap.size, 2, none⟩ = some p2 := by simp [World.cell?, hp2]
  have e3 : ∀ o, w8.frozen? ⟨w2.heap.size, o, none⟩ = false := fun o => by simp [World.frozen?, hp2]
  obtain ⟨V2b, hVb⟩ : ∃ V, ((w8.setCell ⟨w2.heap.size, 0, none⟩ (.slice Yf2 y2.finds.length yf2)).setCell ⟨w2.heap.size, 1, none⟩ (.slice Ys2 y2.slots.length ys2)).setCell ⟨w2.heap.size, 2, none⟩ (.slice Yt2 y2.fits.length yt2) = V := ⟨_, rfl⟩
  have HBb := hid (HB7.out.trans (hbb.mono HB7.out.size))
  have HBV : Hid (Below w.heap.size w V2b) := hid (by rw [← hVb]; exact below_set3 HBb.out (Nat.le_of_lt LL.out.1))
  have HMY : Hid (MadeAt w7.heap.size V2b (.slice Yf2 y2.finds.length yf2) (.slice Ys2 y2.slots.length ys2) (.slice Yt2 y2.fits.length yt2) y2) := hid (by rw [← hVb]; exact hMy.set3 hp2)
  have l0 : V2b.cell? ⟨w.heap.size, 0, none⟩ = some (.slice Af b.finds.length cf) := by rw [← hVb]; exact far_cell k0 (Nat.ne_of_lt LL.out.1)
  have l1 : V2b.cell? ⟨w.heap.size, 1, none⟩ = some (.slice As b.slots.length cs) := by rw [← hVb]; exact far_cell k1 (Nat.ne_of_lt LL.out.1)
  have l2 : V2b.cell? ⟨w.heap.size, 2, none⟩ = some (.slice At b.fits.length ct) := by rw [← hVb]; exact far_cell k2 (Nat.ne_of_lt LL.out.1)
  have B1 : Hid (V2b.heap[w2.heap.size]? = some (.cells #[.slice Yf2 y2.finds.length yf2, .slice Ys2 y2.slots.length ys2, .slice Yt2 y2.fits.length yt2] 26 (0, 0))) := hid (by rw [← hVb]; exact set3 hp2)
  have B2 : Hid (V2b.heap[w3.heap.size]? = some (.cells #[r0, r1, r2] 26 (0, 0))) := hid (by rw [← hVb]; exact far_block hr2 (Nat.ne_of_gt LL.out.2))
  have HCY := hid hcy
  clear hbb hMy hcy hp hr hp2 hr2 k0 k1 k2 k70 k71 k72 HB7 HBb C17 C27
  go_wp2_with fail
  clear e0 e1 e2 e3 hVb
  refine (refFixed_any b Af As At cf cs ct V2b HS.out (hB0.out.kept (Kept.of_below HBV.out)) f s).mono ?_
  rintro e w9 ⟨kz, z, ⟨hbc, vf, vs, vt, rfl, hMz⟩, hcz⟩
  obtain ⟨rfl, rfl⟩ := fit_same (F := fun _ => [s]) HCY.out hcz
  obtain ⟨Zf2, zf2, Zs2, zs2, Zt2, zt2, rfl, rfl, rfl, _⟩ := hMz.boardAt
  have hp2 := (hbc.block _ (Array.getElem?_eq_some_iff.1 B1.out).1).trans B1.out
  have hr2 := (hbc.block _ (Array.getElem?_eq_some_iff.1 B2.out).1).trans B2.out
  have k0 := (Kept.of_below hbc) _ _ l0
  have k1 := (Kept.of_below hbc) _ _ l1
  have k2 := (Kept.of_below hbc) _ _ l2
  have e0 : w9.cell? ⟨w3.heap.size, 0, none⟩ = some r0 := by simp [World.cell?, hr2]
  have e1 : w9.cell? ⟨w3.heap.size, 1, none⟩ = some r1 := by simp [World.cell?, hr2]
  have e2 : w9.cell? ⟨w3.heap.size, 2, none⟩ = some r2 := by simp [World.cell?, hr2]
  have e3 : ∀ o, w9.frozen? ⟨w3.heap.size, o, none⟩ = false := fun o => by simp [World.frozen?, hr2]
  obtain ⟨V2c, hVc⟩ : ∃ V, ((w9.setCell ⟨w3.heap.size, 0, none⟩ (.slice Zf2 z.finds.length zf2)).setCell ⟨w3.heap.size, 1, none⟩ (.slice Zs2 z.slots.length zs2)).setCell ⟨w3.heap.size, 2, none⟩ (.slice Zt2 z.fits.length zt2) = V := ⟨_, rfl⟩
  have HBc := hid (HBV.out.trans (hbc.mono HBV.out.size))
  have HBW : Hid (Below w.heap.size w V2c) := hid (by rw [← hVc]; exact below_set3 HBc.out (Nat.le_of_lt (Nat.lt_trans LL.out.1 LL.out.2)))
  have BY : Hid (BoardAt V2c Yf2 Ys2 Yt2 z) := hid (by
    obtain ⟨_, _, _, _, _, _, h1, h2, h3, h4⟩ := ((HMY.out.below hbc).set3 (a := .slice Zf2 z.finds.length zf2) (x := .slice Zs2 z.slots.length zs2) (c := .slice Zt2 z.fits.length zt2) hr2).boardAt
    cases h1; cases h2; cases h3
    rw [← hVc]; exact h4)
  have BZ : Hid (BoardAt V2c Zf2 Zs2 Zt2 z) := hid (by
    obtain ⟨_, _, _, _, _, _, h1, h2, h3, h4⟩ := (hMz.set3 (a := .slice Zf2 z.finds.length zf2) (x := .slice Zs2 z.slots.length zs2) (c := .slice Zt2 z.fits.length zt2) hr2).boardAt
    cases h1; cases h2; cases h3
    rw [← hVc]; exact h4)
  have hne3 : w.heap.size ≠ w3.heap.size := Nat.ne_of_lt (Nat.lt_trans LL.out.1 LL.out.2)
  have l0 : V2c.cell? ⟨w.heap.size, 0, none⟩ = some (.slice Af b.finds.length cf) := by rw [← hVc]; exact far_cell k0 hne3
  have l1 : V2c.cell? ⟨w.heap.size, 1, none⟩ = some (.slice As b.slots.length cs) := by rw [← hVc]; exact far_cell k1 hne3
  have l2 : V2c.cell? ⟨w.heap.size, 2, none⟩ = some (.slice At b.fits.length ct) := by rw [← hVc]; exact far_cell k2 hne3
  have D2 : V2c.heap[w3.heap.size]? = some (.cells #[.slice Zf2 z.finds.length zf2, .slice Zs2 z.slots.length zs2, .slice Zt2 z.fits.length zt2] 26 (0, 0)) := by rw [← hVc]; exact set3 hr2
  have D1 : V2c.heap[w2.heap.size]? = some (.cells #[.slice Yf2 z.finds.length yf2, .slice Ys2 z.slots.length ys2, .slice Yt2 z.fits.length yt2] 26 (0, 0)) := by rw [← hVc]; exact far_block hp2 (Nat.ne_of_lt LL.out.2)
  have a0 : V2c.cell? ⟨w2.heap.size, 0, none⟩ = some (.slice Yf2 z.finds.length yf2) := by simp [World.cell?, D1]
  have a1 : V2c.cell? ⟨w2.heap.size, 1, none⟩ = some (.slice Ys2 z.slots.length ys2) := by simp [World.cell?, D1]
  have a2 : V2c.cell? ⟨w2.heap.size, 2, none⟩ = some (.slice Yt2 z.fits.length yt2) := by simp [World.cell?, D1]
  have c0 : V2c.cell? ⟨w3.heap.size, 0, none⟩ = some (.slice Zf2 z.finds.length zf2) := by simp [World.cell?, D2]
  have c1 : V2c.cell? ⟨w3.heap.size, 1, none⟩ = some (.slice Zs2 z.slots.length zs2) := by simp [World.cell?, D2]
  have c2 : V2c.cell? ⟨w3.heap.size, 2, none⟩ = some (.slice Zt2 z.fits.length zt2) := by simp [World.cell?, D2]
  have HD1 := hid D1
  have HD2 := hid D2
  have SM := hid (fit_small (F := fun _ => [s]) HS.out (by intro L _; simp) HCY.out)
  have dk : (kz != kz) = false := by simp
  have dk2 : (kz == kz) = true := by simp
  have HQ := hid hcz
  clear hbc hMz hcz hp2 hr2 k0 k1 k2 D1 D2 HBV HBc HMY HCY B1 B2 hne3
  go_wp2_with fail
  refine (matched_true V2c).mono ?_
  rintro e wm ⟨rfl, hbm⟩
  have km := Kept.of_below hbm
  have d0 := km _ _ a0
  have d1 := km _ _ a1
  have d2 := km _ _ a2
  have f0 := km _ _ c0
  have f1 := km _ _ c1
  have f2 := km _ _ c2
  have BY2 := hid (BY.out.kept km)
  have BZ2 := hid (BZ.out.kept km)
  have HBM := hid (HBW.out.trans (hbm.mono HBW.out.size))
  clear hbm km a0 a1 a2 c0 c1 c2 l0 l1 l2 e0 e1 e2 e3 hVc
  go_wp2_with fail
  refine (sameBoard_true z Yf2 Ys2 Yt2 Zf2 Zs2 Zt2 yf2 ys2 yt2 zf2 zs2 zt2 wm (by have := SM.out.1; omega) (by have := SM.out.2.1; omega) (by have := SM.out.2.2.1; omega) (fun l hl => by have := SM.out.2.2.2 l hl; omega) BY2.out BZ2.out).mono ?_
  rintro e wn ⟨rfl, hbn⟩
  have HBN := hid (HBM.out.trans (hbn.mono HBM.out.size))
  clear hbn
  go_wp2_with fail
  go_ret
  exact ⟨rfl, HBN.out⟩
end Go.Proofs.Ytpmdjbjnihhjeaa
