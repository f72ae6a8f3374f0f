/- MatchMemory, walked: the law's function returns true. -/
import Derived.Test.YtpmdjbjnihhjeaaRewrite
import Derived.Test.YtpmdjbjnihhjeaaCopied
import Derived.Test.YtpmdjbjnihhjeaaSame
import Derived.Test.YtpmdjbjnihhjeaaLoadsLaw
namespace Go.Proofs.Ytpmdjbjnihhjeaa
open Go.RowKit
set_option linter.unusedSimpArgs false

theorem small_nil : Board.nil.small := ⟨by simp [Board.nil], by simp [Board.nil], by simp [Board.nil], by simp [Board.nil]⟩
theorem fit_same {q ky kz : Int} {b y z : Board} {f s : Int} {F : List Int → List Int}
    (hy : (q ≠ 0 ∧ ky = q ∧ y = Board.nil) ∨ (q = 0 ∧ s ∉ fitOf b.fits f.toNat ∧ ky = 5 ∧ y = Board.nil) ∨ (q = 0 ∧ s ∈ fitOf b.fits f.toNat ∧ ky = 0 ∧ y = b.refit f.toNat (F (fitOf b.fits f.toNat))))
    (hz : (q ≠ 0 ∧ kz = q ∧ z = Board.nil) ∨ (q = 0 ∧ s ∉ fitOf b.fits f.toNat ∧ kz = 5 ∧ z = Board.nil) ∨ (q = 0 ∧ s ∈ fitOf b.fits f.toNat ∧ kz = 0 ∧ z = b.refit f.toNat (F (fitOf b.fits f.toNat)))) :
    kz = ky ∧ z = y := by
  rcases hy with ⟨h1, h2, h3⟩ | ⟨h1, h2, h3, h4⟩ | ⟨h1, h2, h3, h4⟩ <;> rcases hz with ⟨g1, g2, g3⟩ | ⟨g1, g2, g3, g4⟩ | ⟨g1, g2, g3, g4⟩
  · exact ⟨by omega, by rw [h3, g3]⟩
  · exact absurd g1 h1
  · exact absurd g1 h1
  · exact absurd h1 g1
  · exact ⟨by omega, by rw [h4, g4]⟩
  · exact absurd g2 h2
  · exact absurd h1 g1
  · exact absurd h2 g2
  · exact ⟨by omega, by rw [h4, g4]⟩
theorem fit_small {q ky : Int} {b y : Board} {f s : Int} {F : List Int → List Int} (hb : b.small) (hF : ∀ L, L.length ≤ 60 → (F L).length ≤ 60)
    (hy : (q ≠ 0 ∧ ky = q ∧ y = Board.nil) ∨ (q = 0 ∧ s ∉ fitOf b.fits f.toNat ∧ ky = 5 ∧ y = Board.nil) ∨ (q = 0 ∧ s ∈ fitOf b.fits f.toNat ∧ ky = 0 ∧ y = b.refit f.toNat (F (fitOf b.fits f.toNat)))) : y.small := by
  rcases hy with ⟨_, _, rfl⟩ | ⟨_, _, _, rfl⟩ | ⟨_, _, _, rfl⟩
  · exact small_nil
  · exact small_nil
  · refine ⟨hb.1, hb.2.1, by simpa [Board.refit] using hb.2.2.1, fun l hl => ?_⟩
    rcases List.mem_or_eq_of_mem_set hl with h1 | rfl
    · exact hb.2.2.2 l h1
    · refine hF _ ?_
      by_cases h : f.toNat < b.fits.length
      · rw [fitOf_lt h]; exact hb.2.2.2 _ (List.getElem_mem _)
      · rw [fitOf_ge (by omega)]; simp
noncomputable def codeOf (b : Board) : Int := if b.check ≠ 0 then b.check else if (open Classical in decide (∃ a, b.As a)) then 0 else 40
theorem chances_rows {b : Board} {w : World} {e : Ending} {w' : World} (h : (b.check ≠ 0 ∧ e = .returned (.tuple #[.slice none 0 0, .int .i64 b.check])) ∨ (b.check = 0 ∧ (¬ ∃ a, b.As a) ∧ e = .returned (.tuple #[.slice none 0 0, .int .i64 40])) ∨
     (b.check = 0 ∧ (∃ a, b.As a) ∧ ∃ A c us, e = .returned (.tuple #[.slice A b.chances.length c, .int .i64 0]) ∧ w'.ownsRow w.heap.size 22 1 (.slice A b.chances.length c) b.chances.length us ∧ ListsOwn w' w.heap.size us b.chances)) :
    ∃ A n c code us ls, e = .returned (.tuple #[.slice A n c, .int .i64 code]) ∧ code = codeOf b ∧ n = ls.length ∧ w'.ownsRow w.heap.size 22 1 (.slice A n c) n us ∧ RowsLen w' w.heap.size us ls ∧ (b.small → n ≤ 1000 ∧ ∀ j (h : j < ls.length), ls[j] ≤ 1000) := by
  rcases h with ⟨h1, rfl⟩ | ⟨h1, h2, rfl⟩ | ⟨h1, h2, A, c, us, rfl, h3, h4⟩
  · exact ⟨none, 0, 0, _, [], [], rfl, by simp [codeOf, h1], rfl, World.ownsRow_nil _ _ _ _, ⟨rfl, fun j hj => by simp at hj⟩, fun _ => ⟨by omega, fun j hj => by simp at hj⟩⟩
  · exact ⟨none, 0, 0, _, [], [], rfl, by simp [codeOf, h1, h2], rfl, World.ownsRow_nil _ _ _ _, ⟨rfl, fun j hj => by simp at hj⟩, fun _ => ⟨by omega, fun j hj => by simp at hj⟩⟩
  · exact ⟨A, _, c, _, us, _, rfl, by simp [codeOf, h1, h2], by rw [List.length_map], h3, h4.lens, fun hs => ⟨by have := hs.1; rw [show b.chances.length = b.finds.length from chancesTo_length _ _]; omega, fun j hj => by
      rw [List.getElem_map]
      rw [List.length_map] at hj
      have hc : b.chances[j] = chancesOf b.fits (pieces b.slots) j := by simp [Board.chances, chancesTo]
      rw [hc]
      refine Nat.le_trans (List.length_filter_le _ _) ?_
      by_cases h : j < b.fits.length
      · rw [fitOf_lt h]; have := hs.2.2.2 _ (List.getElem_mem h); omega
      · rw [fitOf_ge (by omega)]; simp⟩⟩

set_option maxRecDepth 100000 in
set_option maxHeartbeats 32000000 in
theorem matchMemory_any (b : Board) (Af As At : Option Addr) (cf cs ct : Nat) (f s : Int) (w : World) (hB : BoardAt w Af As At b) :
    Calls Try.prog 4 #[.agg #[.slice Af b.finds.length cf, .slice As b.slots.length cs, .slice At b.fits.length ct], .int .i64 f, .int .i64 s] w (LawPost w) := by
  obtain ⟨W, hW, b0, b1, b2, hbW, hz⟩ := box3 w (.slice Af b.finds.length cf) (.slice As b.slots.length cs) (.slice At b.fits.length ct) 26
  have HBW := hid hbW
  have hBW := hid (hB.kept (Kept.of_below hbW))
  have hB0 := hid hB
  clear hz hbW hB
  go_enter Try.func4, Try.ntmps4
  go_wp2_with fail
  refine (wide_any b Af As At cf cs ct W hBW.out).mono ?_
  rintro e w1 ⟨t, rfl, hb1, hw1⟩
  have k0 := (Kept.of_below hb1) _ _ b0
  have k1 := (Kept.of_below hb1) _ _ b1
  have k2 := (Kept.of_below hb1) _ _ b2
  have HB1 := hid (HBW.out.trans (hb1.mono HBW.out.size))
  clear hb1 hW b0 b1 b2 hBW HBW
  rcases t with _ | _
  case false =>
    go_wp2_with fail
    refine (matched_true w1).mono ?_
    rintro e wm ⟨rfl, hbm⟩
    have HBM := hid (HB1.out.trans (hbm.mono HB1.out.size))
    clear hbm
    go_wp2_with fail
    go_ret
    exact ⟨rfl, HBM.out⟩
  have HS := hid (hw1 rfl).1
  clear hw1
  go_wp2_with fail
  refine (copied_any b Af As At cf cs ct w1 HS.out (hB0.out.kept (Kept.of_below HB1.out))).mono ?_
  rintro e w2 ⟨vf, vs, vt, rfl, hM, hb2⟩
  obtain ⟨Bf, bf, Bs, bs, Bt, bt, rfl, rfl, rfl, hBB⟩ := hM.boardAt
  obtain ⟨V2, hV2, y0, y1, y2, hbV2, _⟩ := box3 w2 (.slice Bf b.finds.length bf) (.slice Bs b.slots.length bs) (.slice Bt b.fits.length bt) 26
  have kk := (Kept.of_below hb2).trans (Kept.of_below hbV2)
  have m0 := kk _ _ k0
  have m1 := kk _ _ k1
  have m2 := kk _ _ k2
  have HWAS := hid (hBB.kept (Kept.of_below hbV2))
  have HB2 := hid (HB1.out.trans ((hb2.trans (hbV2.mono hb2.size)).mono HB1.out.size))
  clear hb2 hbV2 hM hBB kk k0 k1 k2 HB1
  go_wp2_with fail
  refine (fixed_any b Af As At cf cs ct V2 HS.out (hB0.out.kept (Kept.of_below HB2.out)) f s).mono ?_
  rintro e w3 ⟨kx, d, ⟨hb3, vf, vs, vt, rfl, hMx⟩, hcx⟩
  have hMx' := hMx
  obtain ⟨Xf, xf, Xs, xs, Xt, xt, rfl, rfl, rfl, hBX⟩ := hMx.boardAt
  obtain ⟨us, o1, o2, _, _⟩ := hMx.fits
  obtain ⟨V3, hV3, x0, x1, x2, hbV3, _⟩ := box3 w3 (.slice Xf d.finds.length xf) (.slice Xs d.slots.length xs) (.slice Xt d.fits.length xt) 26
  have kk := (Kept.of_below hb3).trans (Kept.of_below hbV3)
  have k0 := kk _ _ m0
  have k1 := kk _ _ m1
  have k2 := kk _ _ m2
  have a0 := kk _ _ y0
  have a1 := kk _ _ y1
  have a2 := kk _ _ y2
  have DS := hid (fit_small (F := fun _ => [s]) HS.out (by intro L _; simp) hcx)
  have HCX := hid hcx
  have HUB := hid (own_blocks o2)
  have HFB := hid hMx.finds.lt
  have HSB := hid hMx.slots.lt
  have HB3 := hid (HB2.out.trans ((hb3.trans (hbV3.mono hb3.size)).mono HB2.out.size))
  have HBV23 := hid (hb3.trans (hbV3.mono hb3.size))
  have N02 : Hid (w.heap.size < V2.heap.size ∧ w2.heap.size < V2.heap.size) := hid ⟨cell_lt m0, cell_lt y0⟩
  have N01 : Hid (V2.heap.size ≤ w3.heap.size ∧ w.heap.size ≤ V2.heap.size ∧ w3.heap.size < V3.heap.size) := hid ⟨hb3.size, HB2.out.size, cell_lt x0⟩
  have O1 := hid (own_below o1 hbV3)
  have O2 := hid (o2.below hbV3)
  have OF := hid (own_below hMx.finds hbV3)
  have OS := hid (own_below hMx.slots hbV3)
  have HBX := hid (hBX.kept (Kept.of_below hbV3))
  have HWAS3 := hid (HWAS.out.kept kk)
  clear hb3 hbV3 hMx hMx' hBX hcx kk o1 o2 m0 m1 m2 y0 y1 y2 HB2 hV2
  go_wp2_with fail
  refine (copied_any d Xf Xs Xt xf xs xt V3 DS.out HBX.out).mono ?_
  rintro e w4 ⟨vf, vs, vt, rfl, hMy, hb4⟩
  obtain ⟨Yf, yf, Ys, ys, Yt, yt, rfl, rfl, rfl, _⟩ := hMy.boardAt
  obtain ⟨V4, hV4, c0, c1, c2, hbV4, _⟩ := box3 w4 (.slice Yf d.finds.length yf) (.slice Ys d.slots.length ys) (.slice Yt d.fits.length yt) 26
  have hb34 := hb4.trans (hbV4.mono hb4.size)
  have kk := Kept.of_below hb34
  have K0 := hid (kk _ _ k0)
  have K1 := hid (kk _ _ k1)
  have K2 := hid (kk _ _ k2)
  have A0 := hid (kk _ _ a0)
  have A1 := hid (kk _ _ a1)
  have A2 := hid (kk _ _ a2)
  have q0 := kk _ _ x0
  have q1 := kk _ _ x1
  have q2 := kk _ _ x2
  have C0 := hid c0
  have C1 := hid c1
  have C2 := hid c2
  have HY := hid (hMy.below hbV4)
  have HWAS4 := hid (HWAS3.out.kept kk)
  have HB4 := hid (HB3.out.trans (hb34.mono HB3.out.size))
  have HBV24 := hid (HBV23.out.trans (hb34.mono HBV23.out.size))
  have N03 : Hid (w3.heap.size ≤ w4.heap.size) := hid (Nat.le_trans (Nat.le_of_lt N01.out.2.2) hb4.size)
  have M0 : Hid (Memo V2.heap.size w3.heap.size V4 V4 (.slice Xf d.finds.length xf) (.slice Xs d.slots.length xs) (.slice Xt d.fits.length xt) us d) := hid ⟨Amid.refl _ _ _, own_below O1.out hb34, (O2.out.below hb34).lens, ⟨_, own_below OS.out hb34⟩, _, rfl, own_below OF.out hb34⟩
  have Q0 := hid q0
  have Q1 := hid q1
  have Q2 := hid q2
  have d1 := DS.out.1
  have d2 := DS.out.2.1
  have d3 := DS.out.2.2.1
  clear hb4 hbV4 hb34 hMy kk k0 k1 k2 a0 a1 a2 x0 x1 x2 c0 c1 c2 O1 O2 OF OS HBX HWAS3 HB3 hV3 q0 q1
  go_wp2_with fail
  clear q2
  go_loopg [11] (d.fits.length) (fun g i wr => ∃ k : Nat, k ≤ d.fits.length ∧ g = d.fits.length - k ∧ i = .int .i64 k ∧ Hid (Memo V2.heap.size w3.heap.size V4 wr (.slice Xf d.finds.length xf) (.slice Xs d.slots.length xs) (.slice Xt d.fits.length xt) us d))
  case atStart => exact ⟨0, by omega, by omega, rfl, M0⟩
  case round =>
    obtain ⟨k, hk, hgk, rfl, hme⟩ := hrel
    have x2 := hme.out.amid.cell Q2.out (.inr (Nat.le_refl _))
    by_cases hlt : k < d.fits.length
    · obtain ⟨v, xs0, h1, h2, h3⟩ := hme.out.rows.2 k (by rw [List.length_map]; exact hlt)
      obtain ⟨m, hm⟩ : ∃ m, (d.fits.map List.length)[k]'(by rw [List.length_map]; exact hlt) = m := ⟨_, rfl⟩
      have hm60 : m ≤ 60 := by rw [← hm, List.getElem_map]; exact DS.out.2.2.2 _ (List.getElem_mem _)
      rw [hm] at h2
      have HM2 := hid hm
      have HU := hid h1
      obtain ⟨A, c, rfl, _⟩ := ownsRow.form h3
      rw [h2] at h1 HU
      obtain ⟨gt, ct', hxt, _, _⟩ := own_slice hme.out.fits (by omega)
      cases hxt
      have i0 : (0 : Int) ≤ k := by omega
      have i1 : (k : Int) < d.fits.length := by omega
      clear h1 h2 h3 hm
      go_wp2_with fail
      go_loopg [12] (m) (fun g i wq => ∃ j : Nat, j ≤ m ∧ g = m - j ∧ i = .int .i64 j ∧ Hid (Memo V2.heap.size w3.heap.size V4 wq (.slice Xf d.finds.length xf) (.slice Xs d.slots.length xs) (.slice (some ⟨gt, 0, none⟩) d.fits.length xt) us d))
      case atStart => exact ⟨0, by omega, by omega, rfl, hme⟩
      case round =>
        obtain ⟨j, hj, hgj, rfl, hmi⟩ := hrel
        have x3 := hmi.out.amid.cell Q2.out (.inr (Nat.le_refl _))
        have r1 := ((own_asIs hmi.out.fits) k (by rw [hmi.out.fits.1]; omega)).1
        have hku := (List.getElem?_eq_some_iff.1 HU.out).2
        simp only [asIs, hku] at r1
        obtain ⟨v', xs1, h1, h2, h3⟩ := hmi.out.rows.2 k (by rw [List.length_map]; exact hlt)
        rw [HM2.out] at h2
        rw [HU.out] at h1
        cases h1
        by_cases hjl : j < m
        · obtain ⟨g, cg, hsl, _, _⟩ := own_slice h3 (by omega)
          have hA : A = some ⟨g, 0, none⟩ := by injection hsl
          subst hA
          rw [h2] at h3
          have hrow : RowAt (Value.int .i64) wr g xs1 := RowAt.of_own (cap := c) (n := m) (by rw [h2]; exact h3)
          have hj1 : j < xs1.length := by omega
          have r2 := (hrow j hj1).1
          obtain ⟨z, hz⟩ : ∃ z, xs1[j]'hj1 = z := ⟨_, rfl⟩
          rw [hz] at r2
          clear hz
          have r3 := (hrow j (by omega)).2
          obtain ⟨cs0, hcs⟩ := own_heap h3
          have HP := hid (Memo.put (k := j) (x := -7) hmi.out hcs (HUB.out _ (List.mem_of_getElem? HU.out) g rfl))
          have j0 : (0 : Int) ≤ j := by omega
          have j1 : (j : Int) < m := by omega
          clear h2 h3 hrow hcs hsl hku hj1
          go_wp2_with fail
          go_roundg (m - (j + 1))
          case measure => omega
          case rel => exact ⟨j + 1, by omega, rfl, by go_num, HP⟩
        · obtain rfl : j = m := by omega
          clear h2 h3 hku
          go_wp2_with fail
          go_roundg (d.fits.length - (k + 1))
          case measure => omega
          case rel => exact ⟨k + 1, by omega, rfl, by go_num, hmi⟩
    · obtain ⟨w5, e5⟩ : ∃ w5, w5 = wr := ⟨_, rfl⟩
      subst e5
      obtain rfl : k = d.fits.length := by omega
      have q1 := hme.out.amid.cell Q1.out (.inr (Nat.le_refl _))
      clear hlt hgk hk
      go_wp2_with fail
      clear q1 x2
      go_loopg [13] (d.slots.length) (fun g i wr => ∃ k : Nat, k ≤ d.slots.length ∧ g = d.slots.length - k ∧ i = .int .i64 k ∧ Hid (Memo V2.heap.size w3.heap.size V4 wr (.slice Xf d.finds.length xf) (.slice Xs d.slots.length xs) (.slice Xt d.fits.length xt) us d))
      case atStart => exact ⟨0, by omega, by omega, rfl, hme⟩
      case round =>
        obtain ⟨k, hk, hgk, rfl, hmi⟩ := hrel
        have x1 := hmi.out.amid.cell Q1.out (.inr (Nat.le_refl _))
        by_cases hlt : k < d.slots.length
        · obtain ⟨ss, hs⟩ := hmi.out.slots
          obtain ⟨gs, cg, hsl, _, _⟩ := own_slice hs (by omega)
          have hA : Xs = some ⟨gs, 0, none⟩ := by injection hsl
          subst hA
          obtain ⟨cs0, hcs⟩ := own_heap hs
          have hlen : k * 3 < ss.length := by rw [hs.1]; omega
          have r2 := hs.cells (g := gs) rfl (k * 3) ss[k * 3] (by simp [hlen])
          rw [add_lit, Nat.zero_add] at r2
          obtain ⟨z, hz⟩ : ∃ z, ss[k * 3]'hlen = z := ⟨_, rfl⟩
          rw [hz] at r2
          have r3 : ∀ o, wr.frozen? ⟨gs, o, none⟩ = false := fun o => by simp [World.frozen?, hcs]
          have HP := hid (Memo.putS (k := k * 3) (u := .int .i64 (-7)) hmi.out rfl (HSB.out gs rfl))
          have i0 : (0 : Int) ≤ k := by omega
          have i1 : (k : Int) < d.slots.length := by omega
          clear hz hs hcs hsl hlen
          go_wp2_with fail
          go_roundg (d.slots.length - (k + 1))
          case measure => omega
          case rel => exact ⟨k + 1, by omega, rfl, by go_num, HP⟩
        · obtain ⟨w6, e6⟩ : ∃ w6, w6 = wr := ⟨_, rfl⟩
          subst e6
          obtain rfl : k = d.slots.length := by omega
          have q0 := hmi.out.amid.cell Q0.out (.inr (Nat.le_refl _))
          clear hlt hgk hk
          go_wp2_with fail
          clear q0 x1
          go_loopg [14] (d.finds.length) (fun g i wr => ∃ k : Nat, k ≤ d.finds.length ∧ g = d.finds.length - k ∧ i = .int .i64 k ∧ Hid (Memo V2.heap.size w3.heap.size V4 wr (.slice Xf d.finds.length xf) (.slice Xs d.slots.length xs) (.slice Xt d.fits.length xt) us d))
          case atStart => exact ⟨0, by omega, by omega, rfl, hmi⟩
          case round =>
            obtain ⟨k, hk, hgk, rfl, hmj⟩ := hrel
            have x0 := hmj.out.amid.cell Q0.out (.inr (Nat.le_refl _))
            by_cases hlt : k < d.finds.length
            · obtain ⟨fs, hfl, hf⟩ := hmj.out.finds
              rw [hfl] at hf
              obtain ⟨gf, cg, hsl, _, _⟩ := own_slice hf (by omega)
              have hA : Xf = some ⟨gf, 0, none⟩ := by injection hsl
              subst hA
              obtain ⟨cs0, hcs⟩ := own_heap hf
              have hlen : k < fs.length := by omega
              have r2 := ((RowAt.of_own (cap := xf) (n := d.finds.length) (by rw [hfl]; exact hf)) k hlen).1
              obtain ⟨z, hz⟩ : ∃ z, fs[k]'hlen = z := ⟨_, rfl⟩
              rw [hz] at r2
              have r3 : ∀ o, wr.frozen? ⟨gf, o, none⟩ = false := fun o => by simp [World.frozen?, hcs]
              have HP := hid (Memo.put (k := k) (x := -7) hmj.out hcs (HFB.out gf rfl))
              have i0 : (0 : Int) ≤ k := by omega
              have i1 : (k : Int) < d.finds.length := by omega
              clear hz hf hcs hsl hlen hfl
              go_wp2_with fail
              go_roundg (d.finds.length - (k + 1))
              case measure => omega
              case rel => exact ⟨k + 1, by omega, rfl, by go_num, HP⟩
            · obtain ⟨w7, e7⟩ : ∃ w7, w7 = wr := ⟨_, rfl⟩
              subst e7
              obtain rfl : k = d.finds.length := by omega
              have HA := hid hmj.out.amid
              have HB7 := hid (HA.out.lo HB4.out N01.out.2.1 HB4.out.size)
              have k0 := HA.out.cell K0.out (.inl N02.out.1)
              have k1 := HA.out.cell K1.out (.inl N02.out.1)
              have k2 := HA.out.cell K2.out (.inl N02.out.1)
              clear hlt hgk hk hmj hmi hme M0
              go_wp2_with fail
              refine (everyChance_any b Af As At cf cs ct w7 HS.out (hB0.out.kept (Kept.of_below HB7.out))).mono ?_
              rintro e w8 ⟨hb8, hpost⟩
              obtain ⟨AL, n, cL, code, uc, lc, rfl, hcode, hn, hown, hrows, hlens⟩ := chances_rows hpost
              have HCO := hid hcode
              have m0 := (Kept.of_below hb8) _ _ k0
              have m1 := (Kept.of_below hb8) _ _ k1
              have m2 := (Kept.of_below hb8) _ _ k2
              have HN8 := hid hn
              have HB78 := hid hb8
              have HO8 := hid hown
              have HR8 := hid hrows
              have hlc : Hid (n ≤ 1000 ∧ ∀ j (h : j < lc.length), lc[j] ≤ 1000) := hid (hlens HS.out)
              have hn1000 := hlc.out.1
              have G0 := hid k0
              have G1 := hid k1
              have G2 := hid k2
              clear hcode hb8 hown hrows hn k0 k1 k2 x0
              go_wp2_with fail
              go_loopg [17] (n) (fun g i wr => ∃ k : Nat, k ≤ n ∧ g = n - k ∧ i = .int .i64 k ∧ Hid (Below w7.heap.size w7 wr ∧ wr.ownsRow w7.heap.size 22 1 (.slice AL n cL) n uc ∧ RowsLen wr w7.heap.size uc lc))
              case atStart => exact ⟨0, by omega, by omega, rfl, hid ⟨HB78.out, HO8.out, HR8.out⟩⟩
              case round =>
                obtain ⟨k, hk, hgk, rfl, hinv⟩ := hrel
                by_cases hlt : k < n
                · have hkl : k < lc.length := by have := HN8.out; omega
                  obtain ⟨v, ys, h1, h2, h3⟩ := hinv.out.2.2.2 k hkl
                  obtain ⟨m, hm⟩ : ∃ m, lc[k]'hkl = m := ⟨_, rfl⟩
                  have hm60 : m ≤ 1000 := by rw [← hm]; exact hlc.out.2 k hkl
                  rw [hm] at h2
                  have HM2 := hid hm
                  have HU := hid h1
                  obtain ⟨A, c, rfl, _⟩ := ownsRow.form h3
                  rw [h2] at h1 HU
                  obtain ⟨gt, ct', hxt, _, _⟩ := own_slice hinv.out.2.1 (by omega)
                  have hAL : AL = some ⟨gt, 0, none⟩ := by injection hxt
                  subst hAL
                  have r1 := ((own_asIs hinv.out.2.1) k (by rw [hinv.out.2.1.1]; omega)).1
                  have hku := (List.getElem?_eq_some_iff.1 HU.out).2
                  simp only [asIs, hku] at r1
                  have i0 : (0 : Int) ≤ k := by omega
                  have i1 : (k : Int) < n := by omega
                  clear h1 h2 h3 hm hxt hku
                  go_wp2_with fail
                  clear r1
                  go_loopg [18] (m) (fun g i wq => ∃ j : Nat, j ≤ m ∧ g = m - j ∧ i = .int .i64 j ∧ Hid (Below w7.heap.size w7 wq ∧ wq.ownsRow w7.heap.size 22 1 (.slice (some ⟨gt, 0, none⟩) n cL) n uc ∧ RowsLen wq w7.heap.size uc lc))
                  case atStart => exact ⟨0, by omega, by omega, rfl, hinv⟩
                  case round =>
                    obtain ⟨j, hj, hgj, rfl, hin⟩ := hrel
                    have r1 := ((own_asIs hin.out.2.1) k (by rw [hin.out.2.1.1]; omega)).1
                    have hku := (List.getElem?_eq_some_iff.1 HU.out).2
                    simp only [asIs, hku] at r1
                    obtain ⟨v', xs1, h1, h2, h3⟩ := hin.out.2.2.2 k hkl
                    rw [HM2.out] at h2
                    rw [HU.out] at h1
                    cases h1
                    by_cases hjl : j < m
                    · obtain ⟨g, cg, hsl, _, _⟩ := own_slice h3 (by omega)
                      have hA : A = some ⟨g, 0, none⟩ := by injection hsl
                      subst hA
                      rw [h2] at h3
                      have hj1 : j < xs1.length := by omega
                      have hrow : RowAt (Value.int .i64) wr g xs1 := RowAt.of_own (cap := c) (n := m) (by rw [h2]; exact h3)
                      have r2 := (hrow j hj1).1
                      obtain ⟨z, hz⟩ : ∃ z, xs1[j]'hj1 = z := ⟨_, rfl⟩
                      rw [hz] at r2
                      have r3 := (hrow j hj1).2
                      obtain ⟨cs0, hcs⟩ := own_heap h3
                      have HP : Hid (Below w7.heap.size w7 (wr.setCell ⟨g, j, none⟩ (.int .i64 (-7))) ∧ (wr.setCell ⟨g, j, none⟩ (.int .i64 (-7))).ownsRow w7.heap.size 22 1 (.slice (some ⟨gt, 0, none⟩) n cL) n uc ∧ RowsLen (wr.setCell ⟨g, j, none⟩ (.int .i64 (-7))) w7.heap.size uc lc) :=
                        hid ⟨hin.out.1.setCell (p := ⟨g, j, none⟩) (own_cap h3).2.2 _, own_set hin.out.2.1 hcs (by decide), hin.out.2.2.put⟩
                      have j0 : (0 : Int) ≤ j := by omega
                      have j1 : (j : Int) < m := by omega
                      clear hz h2 h3 hrow hcs hsl hku hj1
                      go_wp2_with fail
                      go_roundg (m - (j + 1))
                      case measure => omega
                      case rel => exact ⟨j + 1, by omega, rfl, by go_num, HP⟩
                    · obtain rfl : j = m := by omega
                      clear h2 h3 hku
                      go_wp2_with fail
                      go_roundg (n - (k + 1))
                      case measure => omega
                      case rel => exact ⟨k + 1, by omega, rfl, by go_num, hin⟩
                · obtain ⟨w9, e9⟩ : ∃ w9, w9 = wr := ⟨_, rfl⟩
                  subst e9
                  have hb79 := hinv.out.1
                  have hk7 := Kept.of_below hb79
                  have HB9 := hid (HB7.out.trans (hb79.mono HB7.out.size))
                  have k0 := hk7 _ _ G0.out
                  have k1 := hk7 _ _ G1.out
                  have k2 := hk7 _ _ G2.out
                  have HA9 := hid (HA.out.below hb79)
                  obtain rfl : k = n := by omega
                  clear hb79 hk7 m0 m1 m2 hlt hgk hk
                  go_wp2_with fail
                  refine (fixed_any b Af As At cf cs ct w9 HS.out (hB0.out.kept (Kept.of_below HB9.out)) f s).mono ?_
                  rintro e w10 ⟨kz, z, ⟨hb10, vf, vs, vt, rfl, hMz⟩, hcz⟩
                  obtain ⟨rfl, rfl⟩ := fit_same (F := fun _ => [s]) HCX.out hcz
                  obtain ⟨Zf, zf, Zs, zs, Zt, zt, rfl, rfl, rfl, _⟩ := hMz.boardAt
                  obtain ⟨V10, hV10, e0, e1, e2, hbV10, _⟩ := box3 w10 (.slice Zf z.finds.length zf) (.slice Zs z.slots.length zs) (.slice Zt z.fits.length zt) 26
                  have hb910 := hb10.trans (hbV10.mono hb10.size)
                  have kk := Kept.of_below hb910
                  have m0 := kk _ _ k0
                  have m1 := kk _ _ k1
                  have m2 := kk _ _ k2
                  have HZ := hid (hMz.below hbV10)
                  have HA10 := hid (HA9.out.below hb910)
                  have HB10 := hid (HB9.out.trans (hb910.mono HB9.out.size))
                  clear hb10 hbV10 hb910 hMz hcz kk k0 k1 k2
                  go_wp2_with fail
                  refine (everyChance_any b Af As At cf cs ct V10 HS.out (hB0.out.kept (Kept.of_below HB10.out))).mono ?_
                  rintro e w11 ⟨hb11, hpost⟩
                  obtain ⟨AL2, n2, cL2, code2, uc2, lc2, rfl, hcode2, _, _, _, _⟩ := chances_rows hpost
                  have hcc : code2 = code := by rw [hcode2, HCO.out]
                  subst hcc
                  have kk := Kept.of_below hb11
                  have k0 := kk _ _ m0
                  have k1 := kk _ _ m1
                  have k2 := kk _ _ m2
                  have HE0 := hid (kk _ _ e0)
                  have HE1 := hid (kk _ _ e1)
                  have HE2 := hid (kk _ _ e2)
                  have HZ11 := hid (HZ.out.below hb11)
                  have HA11 := hid (HA10.out.below hb11)
                  have HB11 := hid (HB10.out.trans (hb11.mono HB10.out.size))
                  clear hb11 hpost hcode2 kk m0 m1 m2 e0 e1 e2 hV10
                  go_wp2_with fail
                  refine (matched_true w11).mono ?_
                  rintro e w12 ⟨rfl, hb12⟩
                  have kk := Kept.of_below hb12
                  have m0 := kk _ _ k0
                  have m1 := kk _ _ k1
                  have m2 := kk _ _ k2
                  have HZ12 := hid (HZ11.out.below hb12)
                  have HA12 := hid (HA11.out.below hb12)
                  have HB12 := hid (HB11.out.trans (hb12.mono HB11.out.size))
                  have g0 := kk _ _ HE0.out
                  have g1 := kk _ _ HE1.out
                  have g2 := kk _ _ HE2.out
                  have a0 := HA12.out.cell A0.out (.inl N02.out.2)
                  have a1 := HA12.out.cell A1.out (.inl N02.out.2)
                  have a2 := HA12.out.cell A2.out (.inl N02.out.2)
                  have c0 := HA12.out.cell C0.out (.inr N03.out)
                  have c1 := HA12.out.cell C1.out (.inr N03.out)
                  have c2 := HA12.out.cell C2.out (.inr N03.out)
                  have HWA := hid (HWAS.out.kept (Kept.of_below (HA12.out.lo HBV24.out (Nat.le_refl _) HBV24.out.size)))
                  have HYA := hid (HY.out.amid HA12.out (Nat.le_of_lt N01.out.2.2))
                  have dk : (kz == kz) = true := by simp
                  have dc : (code2 == code2) = true := by simp
                  clear hb12 kk k0 k1 k2
                  go_wp2_with fail
                  refine (sameBoard_true b Af As At Bf Bs Bt cf cs ct bf bs bt w12 (by have := HS.out.1; omega) (by have := HS.out.2.1; omega) (by have := HS.out.2.2.1; omega) (fun l hl => by have := HS.out.2.2.2 l hl; omega) (hB0.out.kept (Kept.of_below HB12.out)) HWA.out).mono ?_
                  rintro e w13 ⟨rfl, hb13⟩
                  have kk := Kept.of_below hb13
                  have u0 := kk _ _ g0
                  have u1 := kk _ _ g1
                  have u2 := kk _ _ g2
                  have v0 := kk _ _ c0
                  have v1 := kk _ _ c1
                  have v2 := kk _ _ c2
                  have HY13 := hid (HYA.out.below hb13)
                  have HZ13 := hid (HZ12.out.below hb13)
                  have HB13 := hid (HB12.out.trans (hb13.mono HB12.out.size))
                  obtain ⟨_, _, _, _, _, _, h1, h2, h3, hBY⟩ := HY13.out.boardAt
                  cases h1; cases h2; cases h3
                  obtain ⟨_, _, _, _, _, _, h1, h2, h3, hBZ⟩ := HZ13.out.boardAt
                  cases h1; cases h2; cases h3
                  have HBY := hid hBY
                  have HBZ := hid hBZ
                  clear hb13 kk hBY hBZ
                  go_wp2_with fail
                  refine (sameBoard_true z Yf Ys Yt Zf Zs Zt yf ys yt zf zs zt w13 (by omega) (by omega) (by omega) (fun l hl => by have := DS.out.2.2.2 l hl; omega) HBY.out HBZ.out).mono ?_
                  rintro e w14 ⟨rfl, hb14⟩
                  have HB14 := hid (HB13.out.trans (hb14.mono HB13.out.size))
                  clear hb14
                  go_wp2_with fail
                  go_ret
                  exact ⟨rfl, HB14.out⟩
end Go.Proofs.Ytpmdjbjnihhjeaa
