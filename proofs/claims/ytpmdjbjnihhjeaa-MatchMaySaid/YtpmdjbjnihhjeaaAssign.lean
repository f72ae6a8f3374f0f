/- Assign. -/
import Derived.Test.YtpmdjbjnihhjeaaNext
namespace Go.Proofs.Ytpmdjbjnihhjeaa
open Go.RowKit

/-- What Assign comes to. -/
def AssignPost (b : Board) (w : World) (e : Ending) (w' : World) : Prop :=
  Below w.heap.size w w' ∧
    ((b.check ≠ 0 ∧ e = .returned (.tuple #[.slice none 0 0, .bool false, .int .i64 b.check])) ∨
     (b.check = 0 ∧ (¬ ∃ a, b.As a) ∧ e = .returned (.tuple #[.slice none 0 0, .bool false, .int .i64 0])) ∨
     (b.check = 0 ∧ ∃ A c a, IsFirst b a ∧ e = .returned (.tuple #[.slice A a.length c, .bool true, .int .i64 0]) ∧ IntsAt w' A a))

theorem copiedFits_n (A : Option Addr) (cap n : Nat) (us : List Value) (w : World) (hn : us.length = n) (hm : n ≤ 1000) (hA : CellsAt w A us) (h1 : ∀ u ∈ us, u.oneCell' = true) :
    Calls Try.prog 53 #[.slice A n cap] w fun e w' => ∃ A' c, e = .returned (.slice A' n c) ∧ w'.ownsRow w.heap.size 22 1 (.slice A' n c) n us ∧ Below w.heap.size w w' := by
  refine (copiedFits_any A cap n us w hn hm hA h1).mono ?_
  rintro e w' ⟨v, rfl, ho, hb⟩
  obtain ⟨A', c, rfl, _⟩ := ownsRow.form ho
  exact ⟨A', c, rfl, ho, hb⟩
theorem own_vals {w : World} {base n B cb : Nat} {A : Option Addr} {c : Nat} {us : List Value} (h : w.ownsRow base 22 1 (.slice A n c) n us) (hn : us.length = n) (hcb : cb < base ∨ w.heap.size ≤ cb) (hB : B ≤ base) (hB2 : B ≤ cb) :
    ∃ g, (0 < n → A = some ⟨g, 0, none⟩) ∧ RowAt (fun v => v) w g us ∧ B ≤ g ∧ g ≠ cb ∧ (0 < n → g < w.heap.size) := by
  rcases Nat.eq_zero_or_pos n with h0 | h0
  · exact ⟨cb + 1, fun h => by omega, fun j hj => by omega, by omega, by omega, fun h => by omega⟩
  · rcases h.2 with ⟨_, h2⟩ | ⟨g, cap, cur, h1, h2, hg, h3, _, hs, ht⟩
    · omega
    · cases h1
      have hlt := (Array.getElem?_eq_some_iff.1 hg).1
      refine ⟨g, fun _ => rfl, fun j hj => ⟨?_, by simp [World.frozen?, hg]⟩, by omega, by omega, fun _ => hlt⟩
      have := h.cells (g := g) rfl j us[j] (by simp [hj])
      rwa [add_lit, Nat.zero_add] at this

theorem ret3_sl {A : Option Addr} {c : Nat} {t v : Value} {n m : Nat} (h : n = m) : Ending.returned (.tuple #[.slice A n c, t, v]) = .returned (.tuple #[.slice A m c, t, v]) := by rw [h]
theorem keep3_set {W1 wa : World} {p1 p2 p3 : Addr} {v1 v2 v3 u : Value} {g o : Nat} (h : wa.cell? p1 = some v1 ∧ wa.cell? p2 = some v2 ∧ wa.cell? p3 = some v3 ∧ Below W1.heap.size W1 wa) (hg : W1.heap.size ≤ g) (h1 : p1.block < W1.heap.size) (h2 : p2.block < W1.heap.size) (h3 : p3.block < W1.heap.size) :
    (wa.setCell ⟨g, o, none⟩ u).cell? p1 = some v1 ∧ (wa.setCell ⟨g, o, none⟩ u).cell? p2 = some v2 ∧ (wa.setCell ⟨g, o, none⟩ u).cell? p3 = some v3 ∧ Below W1.heap.size W1 (wa.setCell ⟨g, o, none⟩ u) := by
  refine ⟨?_, ?_, ?_, h.2.2.2.setCell (p := ⟨g, o, none⟩) hg u⟩
  · rw [World.cell?_setCell_other _ _ _ _ (fun e => by have := congrArg Addr.block e; simp at this; omega)]; exact h.1
  · rw [World.cell?_setCell_other _ _ _ _ (fun e => by have := congrArg Addr.block e; simp at this; omega)]; exact h.2.1
  · rw [World.cell?_setCell_other _ _ _ _ (fun e => by have := congrArg Addr.block e; simp at this; omega)]; exact h.2.2.1

theorem assign_mem (b : Board) (w2 wc w' : World) (Af As At Ac : Option Addr) (cf cs ct cc cb bb gb n : Nat) (us : List Value) (hfl : b.fits.length = n) (hB2 : BoardAt w2 Af As At b) (HU1 : FitsIn w2 us b.fits) (hb23 : Below w2.heap.size w2 wc)
    (q0 : wc.cell? ⟨cb, 0, none⟩ = some (.slice Af b.finds.length cf)) (q1 : wc.cell? ⟨cb, 1, none⟩ = some (.slice As b.slots.length cs)) (q2 : wc.cell? ⟨cb, 2, none⟩ = some (.slice Ac b.fits.length cc)) (b2 : wc.cell? ⟨bb, 2, none⟩ = some (.slice At b.fits.length ct)) (hbb : bb < w2.heap.size)
    (hAc : 0 < b.fits.length → Ac = some ⟨gb, 0, none⟩) (hgr : RowAt (fun v => v) wc gb us) (hg1 : w2.heap.size ≤ gb) (hg2 : gb ≠ cb) (hg3 : 0 < b.fits.length → gb < wc.heap.size)
    (hw' : Below (wc.heap.size + 1) (wc.alloc (.cells #[.int .i64 (-1)] 3)) w') (hog : Block w' (wc.heap.size + 1) 3 (ints (List.replicate n (-1))))
    (Wv : World) (hWv : Wv = (w'.alloc (.cells #[.slice (some ⟨wc.heap.size + 1, 0, none⟩) n n] 22)).alloc (.cells #[.func (.func 55) #[] #[.pointer (some ⟨cb, 0, none⟩), .pointer (some ⟨bb, 0, none⟩), .pointer (some ⟨w'.heap.size, 0, none⟩), .pointer (some ⟨w'.heap.size + 1, 0, none⟩)]] 73)) :
    ∃ gb', NextMem (bare (bare Wv gb') (wc.heap.size + 1)) cb bb w'.heap.size (w'.heap.size + 1) gb' (wc.heap.size + 1) b ∧ Kept (bare (bare Wv gb') (wc.heap.size + 1)) Wv ∧ FitsIn (bare (bare Wv gb') (wc.heap.size + 1)) us b.fits ∧ RowAt (fun v => v) Wv gb' us ∧ RowAt (Value.int .i64) Wv (wc.heap.size + 1) (List.replicate b.fits.length (-1)) ∧ Below w2.heap.size w2 Wv ∧ w2.heap.size ≤ gb' := by
  have hogl : wc.heap.size + 1 < w'.heap.size := (Array.getElem?_eq_some_iff.1 hog).1
  have hbc' : Below wc.heap.size wc w' := ((Below.refl _ _).alloc (Nat.le_refl _) _).trans (hw'.mono (by omega))
  have hmv : Below w'.heap.size w' Wv := by subst hWv; exact ((Below.refl _ _).alloc (Nat.le_refl _) _).alloc (by simp) _
  have hcv : Below wc.heap.size wc Wv := hbc'.trans (hmv.mono (by omega))
  have h2v : Below w2.heap.size w2 Wv := hb23.trans (hcv.mono hb23.size)
  have hsz := hb23.size
  have hlcb : cb < wc.heap.size := cell_lt q0
  -- a block for no fits at all
  obtain ⟨gb', g1, g2, g3, g4, g5, g6, g7⟩ : ∃ gb', (0 < b.fits.length → Ac = some ⟨gb', 0, none⟩) ∧ RowAt (fun v => v) Wv gb' us ∧ w2.heap.size ≤ gb' ∧ gb' ≠ cb ∧ gb' ≠ wc.heap.size + 1 ∧ gb' ≠ w'.heap.size ∧ gb' ≠ w'.heap.size + 1 := by
    by_cases h0 : 0 < b.fits.length
    · have := hg3 h0
      exact ⟨gb, hAc, hgr.below hcv, hg1, hg2, by omega, by omega, by omega⟩
    · exact ⟨w'.heap.size + 2, fun h => absurd h h0, fun j hj => by have := HU1.1; omega, by omega, by omega, by omega, by omega, by omega⟩
  have hS : ∀ (p : Addr) v, w2.cell? p = some v → (bare (bare Wv gb') (wc.heap.size + 1)).cell? p = some v := fun p v hp => by
    have := cell_lt hp
    rw [bare_cell (show p.block ≠ wc.heap.size + 1 by omega), bare_cell (show p.block ≠ gb' by omega)]
    exact (Kept.of_below h2v) p v hp
  have q : ∀ (x o : Nat) (v : Value), Wv.cell? ⟨x, o, none⟩ = some v → x ≠ gb' → x ≠ wc.heap.size + 1 → (bare (bare Wv gb') (wc.heap.size + 1)).cell? ⟨x, o, none⟩ = some v := fun x o v h h1 h2 => by
    rw [bare_cell (p := ⟨x, o, none⟩) h2, bare_cell (p := ⟨x, o, none⟩) h1]; exact h
  have kcv := Kept.of_below hcv
  refine ⟨gb', ⟨⟨Af, cf, q _ _ _ (kcv _ _ q0) (by omega) (by omega), hB2.finds.kept hS⟩, ⟨As, cs, q _ _ _ (kcv _ _ q1) (by omega) (by omega), hB2.slots.kept hS⟩, ⟨Ac, cc, q _ _ _ (kcv _ _ q2) (by omega) (by omega), g1⟩,
    ⟨At, ct, q _ _ _ (kcv _ _ b2) (by omega) (by omega), hB2.fits.kept hS⟩, ⟨n, q _ _ _ ?_ (by omega) (by omega)⟩, q _ _ _ ?_ (by omega) (by omega), bare2_void _ _ _, g5⟩, bare2_kept _ _ _, HU1.kept hS, g2, ?_, h2v, g3⟩
  · subst hWv; rw [hfl]; simp
  · subst hWv; simp
  · rw [hfl]; exact (RowAt.of_block hog).below hmv

set_option maxRecDepth 100000 in
set_option maxHeartbeats 8000000 in
theorem assign_any (b : Board) (Af As At : Option Addr) (cf cs ct : Nat) (w : World) (hs : b.small) (hB : BoardAt w Af As At b) :
    Calls Try.prog 15 #[.agg #[.slice Af b.finds.length cf, .slice As b.slots.length cs, .slice At b.fits.length ct]] w (AssignPost b w) := by
  have HS := hid hs
  obtain ⟨W, hW, c0, c1, c2, hbW, hz⟩ := box3 w (.slice Af b.finds.length cf) (.slice As b.slots.length cs) (.slice At b.fits.length ct) 26
  have HBW := hid hbW
  have hBW := hid (hB.kept (Kept.of_below hbW))
  clear hz hbW hB hs
  by_cases hc : b.check = 0
  case neg =>
    have d1 : (b.check != 0) = true := by simpa using hc
    have HC := hid hc
    clear hc
    go_enter Try.func15, Try.ntmps15
    go_wp2_with fail
    refine (check_any Af As At cf cs ct b W HS.out hBW.out).mono ?_
    rintro e w1 ⟨rfl, hb1⟩
    have HB1 := hid hb1
    clear hb1
    go_wp2_with fail
    go_ret3
    exact ⟨HBW.out.trans (HB1.out.mono HBW.out.size), .inl ⟨HC.out, rfl⟩⟩
  case pos =>
    have HC := hid hc
    have HG := hid (Board.check_good hc)
    have HFI := hid (Board.check_fine HS.out hc)
    clear hc
    go_enter Try.func15, Try.ntmps15
    go_wp2_with fail
    refine (check_t Af As At cf cs ct b W HS.out hBW.out HC.out).mono ?_
    rintro e w1 ⟨rfl, hb1⟩
    have k0 := (Kept.of_below hb1) _ _ c0
    have k1 := (Kept.of_below hb1) _ _ c1
    have k2 := (Kept.of_below hb1) _ _ c2
    have HB1 := hid hb1
    clear hb1 hW c0 c1 c2
    go_wp2_with fail
    refine (some_any b Af As At cf cs ct w1 HFI.out (hBW.out.kept (Kept.of_below HB1.out))).mono ?_
    have hbb : Below w.heap.size w w1 := HBW.out.trans (HB1.out.mono HBW.out.size)
    rintro e w2 ⟨tb, ⟨rfl, w0, hb, rb, has, h01, hT, hA⟩ | ⟨rfl, hb2, H, hS⟩⟩
    case inr =>
      have HB2 := hid hb2
      have HSH := hid hS
      have HBB := hid hbb
      clear hb2 hS hbb k0 k1 k2
      go_wp2_with fail
      go_ret3
      exact ⟨HBB.out.trans (HB2.out.mono HBB.out.size), .inr (.inl ⟨HC.out, Board.no_as HC.out HSH.out, rfl⟩)⟩
    case inl =>
      have hb12 : Below w1.heap.size w1 w2 := h01.trans (hT.kept.mono h01.size)
      have m0 := (Kept.of_below hb12) _ _ k0
      have m1 := (Kept.of_below hb12) _ _ k1
      have m2 := (Kept.of_below hb12) _ _ k2
      have hB2 := hid ((hBW.out.kept (Kept.of_below HB1.out)).kept (Kept.of_below hb12))
      have HA := hid hA
      have HBB := hid (hbb.trans (hb12.mono hbb.size))
      clear h01 hT hA hb12 k0 k1 k2 hbb
      obtain ⟨us, hus1, hus2, hus3⟩ := hB2.out.fits.cells
      have HU1 := hid hus1
      have HU2 := hid hus2
      have HU3 := hid hus3
      clear hus1 hus2 hus3
      have hlw2 : w.heap.size < w2.heap.size := cell_lt m0
      have hn100 : b.finds.length ≤ 100 := HFI.out.finds
      have hfl := hid HFI.out.fits
      go_wp2_with fail
      go_cut [8] (fun s8 wx => ∃ cb gb A c, s8 = .pointer (some ⟨cb, 0, none⟩) ∧ wx.cell? ⟨cb, 0, none⟩ = some (.slice Af b.finds.length cf) ∧ wx.cell? ⟨cb, 1, none⟩ = some (.slice As b.slots.length cs) ∧ wx.cell? ⟨cb, 2, none⟩ = some (.slice A b.fits.length c) ∧
        (0 < b.fits.length → A = some ⟨gb, 0, none⟩) ∧ RowAt (fun v => v) wx gb us ∧ w2.heap.size ≤ gb ∧ gb ≠ cb ∧ (0 < b.fits.length → gb < wx.heap.size) ∧ Below w2.heap.size w2 wx)
      case first =>
        go_region_held3 (fun w' => w'.cell? ⟨w.heap.size, 0, none⟩ = some (.slice Af b.finds.length cf) ∧ w'.cell? ⟨w.heap.size, 1, none⟩ = some (.slice As b.slots.length cs) ∧ w'.cell? ⟨w.heap.size, 2, none⟩ = some (.slice At b.fits.length ct) ∧ Below w2.heap.size w2 w')
          (first | exact ⟨m0, m1, m2, (Below.refl _ _).drew⟩ | exact keep3 (by assumption) hbel | exact keep3 (by assumption) ((Below.refl _ _).alloc (Nat.le_refl _) _) | exact keep3 (wa := w2) ⟨m0, m1, m2, Below.refl _ _⟩ ((((Below.refl _ _).drew).trans (hbel.mono (by simp))).alloc (Nat.le_trans (by simp) hbel.size) _) | exact keep3_set (keep3_set (keep3_set (by assumption) (Nat.le_refl _) hlw2 hlw2 hlw2) (Nat.le_refl _) hlw2 hlw2 hlw2) (Nat.le_refl _) hlw2 hlw2 hlw2)
          (first
            | (go_at_call 53; refine (copiedFits_n At ct _ us _ HU1.out.1 (by rw [hfl.out]; omega) (HU2.out.kept (Kept.of_below (And.right (And.right (And.right (by assumption)))))) HU3.out).mono ?_; rintro e w' ⟨A', c', rfl, hown, hbel⟩; have hcw := fun o (h : w2.heap.size < _) => hbel.cell (p := ⟨w2.heap.size, o, none⟩) h; have hfw := fun o (h : w2.heap.size < _) => hbel.frozen (p := ⟨w2.heap.size, o, none⟩) h))
        · go_wp2_with fail
          go_meet
          have hbw : Below w2.heap.size w2 w' := ((Below.refl _ _).drew).trans (hbel.mono (by simp))
          obtain ⟨gb, v1, v2, v3, v4, v5⟩ := own_vals (B := w2.heap.size) (cb := w'.heap.size) hown HU1.out.1 (.inr (Nat.le_refl _)) (Nat.le_refl _) hbw.size
          exact ⟨w'.heap.size, gb, A', c', rfl, by simp, by simp, by simp, v1, v2.below ((Below.refl _ _).alloc (Nat.le_refl _) _), v3, v4, fun h => by have := v5 h; simp; omega, hbw.alloc hbw.size _⟩
        · go_wp2_with fail
          go_meet
          have hal : Below w2.heap.size w2 ((w2.alloc (.cells #[.slice none 0 0, .slice none 0 0, .slice none 0 0] 26)).drew) := ((Below.refl _ _).alloc (Nat.le_refl _) _).drew
          have hbw : Below w2.heap.size w2 w' := hal.trans (hbel.mono (by simp))
          obtain ⟨gb, v1, v2, v3, v4, v5⟩ := own_vals (B := w2.heap.size) (cb := w2.heap.size) hown HU1.out.1 (.inl (by simp)) (by simp) (Nat.le_refl _)
          have hh : w'.heap[w2.heap.size]? = some (.cells #[.slice none 0 0, .slice none 0 0, .slice none 0 0] 26 (0, 0)) := (hbel.block _ (by simp)).trans (heap_alloc_new w2 _)
          have hh3 := block_set (i := 2) (v := .slice A' b.fits.length c') (block_set (i := 1) (v := .slice As b.slots.length cs) (block_set (i := 0) (v := .slice Af b.finds.length cf) hh))
          refine ⟨w2.heap.size, gb, A', c', rfl, by simp [World.cell?, hh3], by simp [World.cell?, hh3], by simp [World.cell?, hh3], v1, ((v2.setOther (p := ⟨w2.heap.size, 0, none⟩) v4.symm _).setOther (p := ⟨w2.heap.size, 1, none⟩) v4.symm _).setOther (p := ⟨w2.heap.size, 2, none⟩) v4.symm _, v3, v4, fun h => by have := v5 h; simpa using this, ((hbw.setCell (p := ⟨w2.heap.size, 0, none⟩) (Nat.le_refl _) _).setCell (p := ⟨w2.heap.size, 1, none⟩) (Nat.le_refl _) _).setCell (p := ⟨w2.heap.size, 2, none⟩) (Nat.le_refl _) _⟩
      case rest =>
        obtain ⟨cb, gb, Ac, cc, rfl, q0, q1, q2, hAc, hgr, hg1, hg2, hg3, hb23⟩ := hcut
        have b0 := (Kept.of_below hb23) _ _ m0
        have b2 := (Kept.of_below hb23) _ _ m2
        have hlwc : w.heap.size < wc.heap.size := cell_lt b0
        have hlcb : cb < wc.heap.size := cell_lt q0
        have HB23 := hid hb23
        have HGR := hid hgr
        have HAC := hid hAc
        have HG3 := hid hg3
        have hmf : ∀ (fn : Fn) (first cap : Array Value) (w : World), (Instr.makeFunc fn first cap).run Try.prog w = .ok (.func fn first cap) w := fun _ _ _ _ => rfl
        clear m0 m1 m2 hb23 hgr hAc hg3
        go_wp2_with fail
        refine (repeat_any wc.heap.size 0 1 (-1) b.finds.length _ (by omega) (by simp)).mono ?_
        rintro e w' ⟨rfl, hown, hbel⟩
        have hogs : (wc.alloc (.cells #[.int .i64 (-1)] 3)).heap.size = wc.heap.size + 1 := by simp
        rw [hogs] at hown hbel ⊢
        have hblk := (own_block hown).1
        have hmem := hid (assign_mem b w2 wc w' Af As At Ac cf cs ct cc cb w.heap.size gb b.finds.length us hfl.out hB2.out HU1.out HB23.out q0 q1 q2 b2 hlw2 HAC.out HGR.out hg1 hg2 HG3.out hbel hblk _ rfl)
        have hsz2 : wc.heap.size + 1 < w'.heap.size := (Array.getElem?_eq_some_iff.1 hblk).1
        clear hogs hown hbel hblk b0 b2 q0 q1 q2
        go_wp2_with fail
        obtain ⟨gb', n1, n2, n3, n4, n5, n6, n7⟩ := hmem.out
        refine (next_any _ cb w.heap.size w'.heap.size (w'.heap.size + 1) gb' (wc.heap.size + 1) b HFI.out HG.out n1 _ 0 b.fits _ us _ (Nat.le_refl _) (Nat.zero_le _) (FirstTo.start ⟨has, HA.out⟩) n2 n3 n4 n5).mono ?_
        have HN1 := hid n1
        have HN2 := hid n2
        have HN6 := hid n6
        have HN7 := hid n7
        rintro e w5 ⟨rfl, ho5, out, hf5, hr5⟩
        obtain ⟨co, o0⟩ := n1.o0
        have r0 := (n2.only n1.void ho5) _ _ o0
        have HO5 := hid ho5
        have HF5 := hid hf5
        have HR5 := hid hr5
        clear ho5 hf5 hr5 n1 n2 n3 n4 n5 n6 n7 hmem o0
        go_wp2_with fail
        go_ret3
        refine ⟨?_, .inr (.inr ⟨HC.out, _, co, out, HF5.out, ret3_sl HF5.out.is.len.symm, HR5.out.intsAt⟩)⟩
        have hw25 : Below w2.heap.size w2 w5 := HN6.out.trans (HO5.out.below (fun x hx => by
          simp only [List.mem_cons, List.not_mem_nil, or_false] at hx
          have := HB23.out.size
          have := HN7.out
          rcases hx with rfl | rfl <;> omega) HN6.out.size)
        exact HBB.out.trans (hw25.mono HBB.out.size)
end Go.Proofs.Ytpmdjbjnihhjeaa
