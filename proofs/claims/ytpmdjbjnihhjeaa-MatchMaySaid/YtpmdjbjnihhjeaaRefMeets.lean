/- The reference's Meets. -/
import Derived.Test.YtpmdjbjnihhjeaaMeets
import Derived.BigRegion
namespace Go.Proofs.Ytpmdjbjnihhjeaa
open Go.RowKit

theorem has_q (A : Option Addr) (cap : Nat) (xs : List Int) (n : Int) (w : World) (hm : xs.length ≤ 9223372036854775807) (hA : IntsAt w A xs) {t : Bool} (ht : decide (n ∈ xs) = t) :
    Calls Try.prog 33 #[.slice A xs.length cap, .int .i64 n] w fun e w' => e = .returned (.bool t) ∧ Drew w w' :=
  (has_t A cap xs n w hm hA ht).mono fun _ _ ⟨h, e⟩ => ⟨h, by subst e; exact Drew.refl _⟩

/-- What the first k finds of a list load the slots with. -/
structure LoadTo (b : Board) (l : List Int) (k : Nat) (ld : List Int) : Prop where
  len : ld.length = b.slots.length
  val : ∀ s (h : s < ld.length), ld[s] = loadOf (l.take k) (s : Int)
  fits : ∀ i, i < k → (fitOf b.fits i = [] → hasOf l i = -1) ∧ (fitOf b.fits i ≠ [] → hasOf l i ∈ fitOf b.fits i)
  few : ∀ s : Int, 0 ≤ s → s < (pieces b.slots).length → loadOf (l.take k) s ≤ roomOf (pieces b.slots) s
theorem load_snoc {l : List Int} {k : Nat} (h : k < l.length) (s : Int) : loadOf (l.take (k + 1)) s = loadOf (l.take k) s + if l[k] = s then 1 else 0 := by
  unfold loadOf
  rw [List.take_succ_eq_append_getElem h, List.count_append, List.count_singleton]
  by_cases e : l[k] = s <;> simp [e]
theorem load_take_le (l : List Int) (k : Nat) (s : Int) : loadOf (l.take k) s ≤ loadOf l s := by
  unfold loadOf
  have : (l.take k).count s ≤ l.count s := List.Sublist.count_le _ (List.take_sublist k l)
  omega
theorem load_take_len (l : List Int) (k : Nat) (s : Int) : 0 ≤ loadOf (l.take k) s ∧ loadOf (l.take k) s ≤ k := by
  unfold loadOf
  have := List.count_le_length (a := s) (l := l.take k)
  have := List.length_take_le k l
  omega
theorem LoadTo.as {b : Board} {l ld : List Int} (h : LoadTo b l l.length ld) (hl : l.length = b.fits.length) : b.As l := by
  have hf := h.few
  rw [List.take_length] at hf
  refine ⟨hl, fun f e => ?_, fun f e => (h.fits f (by rw [hl]; exact fitOf_ne e)).2 e, hf⟩
  rcases Nat.lt_or_ge f l.length with hlt | hge
  · exact (h.fits f hlt).1 e
  · exact hasOf_ge hge

set_option maxRecDepth 100000 in
set_option maxHeartbeats 8000000 in
theorem refMeets_in (b : Board) (Af As At Al : Option Addr) (cf cs ct cl : Nat) (l : List Int) (w : World) (hs : b.small) (hc : b.check = 0) (hl80 : l.length ≤ 80) (hB : BoardAt w Af As At b) (hL : IntsAt w Al l) {t : Bool} (ht : asB b l = t) :
    Calls Try.prog 71 #[.agg #[.slice Af b.finds.length cf, .slice As b.slots.length cs, .slice At b.fits.length ct], .slice Al l.length cl] w fun e w' => e = .returned (.bool t) ∧ Below w.heap.size w w' := by
  obtain ⟨W, hW, c0, c1, c2, hbW, hz⟩ := box3 w (.slice Af b.finds.length cf) (.slice As b.slots.length cs) (.slice At b.fits.length ct) 26
  have HT := hid ht
  have HS := hid hs
  have HBW := hid hbW
  have hBW := hid (hB.kept (Kept.of_below hbW))
  have hLW := hid (hL.kept (Kept.of_below hbW))
  have HC := hid hc
  have HG := hid (Board.check_good hc)
  have HFI := hid (Board.check_fine hs hc)
  have hnn := Board.check_sizes hc
  have hn60 := hnn.1
  have hm200 := hnn.2
  clear hz hbW hB hs hL ht hc hnn
  by_cases hlen : l.length = b.finds.length
  case neg =>
    have d1 : ((l.length : Int) != (b.finds.length : Int)) = true := by rw [bne_iff_ne]; omega
    have HLEN := hid hlen
    clear hlen
    go_enter Try.func71, Try.ntmps71
    go_wp2_with fail
    go_ret
    exact ⟨ret_bool (by rw [← HT.out]; exact (asB_no (fun h => HLEN.out (by rw [h.len]; exact HFI.out.fits))).symm), HBW.out⟩
  case pos =>
    have d1 : ((l.length : Int) != (b.finds.length : Int)) = false := by rw [bne_eq_false_iff_eq]; omega
    have HLEN : Hid (l.length = b.fits.length) := hid (by rw [HFI.out.fits]; exact hlen)
    obtain ⟨i, i1, i2, i3, i4⟩ := ints_info
    have IB : Hid (i.bytes = 8) := hid i4
    clear hlen i4
    go_enter Try.func71, Try.ntmps71
    go_wp2_with (at_make; refine wpList_make_full _ rfl _ _ 22 rfl W.heap.size 3 i (.int .i64 0) 1 intsl_u i1 i2 i3 .i64 .i64 _ _ b.slots.length rfl rfl rfl rfl ?_ ?_ (Nat.le_refl _) ?_)
    · rw [IB.out]; omega
    · unfold maxLen; omega
    rintro w1 hown hgrow
    rw [made1, ← ints_replicate] at hown
    have hblk := (own_block hown).1
    have hrow0 := hid (RowAt.of_block hblk)
    have hb1 : Below W.heap.size W w1 := Below.of_grown hgrow (Nat.le_refl _) (fun k e => by cases e)
    have HB1 := hid hb1
    have k0 := (Kept.of_below hb1) _ _ c0
    have k1 := (Kept.of_below hb1) _ _ c1
    have k2 := (Kept.of_below hb1) _ _ c2
    have hlW : w.heap.size < W.heap.size := cell_lt c0
    have K1 := hid k1
    have K2 := hid k2
    clear hown hgrow hblk hb1 hW c0 c1 c2 k0 k1 k2
    go_wp2_with fail
    go_loopg [6] (l.length) (fun g i wr => ∃ (k : Nat) (ld : List Int), k ≤ l.length ∧ g = l.length - k ∧ i = .int .i64 k ∧ Hid (LoadTo b l k ld) ∧ Hid (RowAt (Value.int .i64) wr W.heap.size ld) ∧ Hid (Below W.heap.size w1 wr))
    case atStart =>
      refine ⟨0, _, by omega, by omega, rfl, hid ⟨by simp, fun s h => by simp [loadOf], fun i h => by omega, fun s h0 h1 => ?_⟩, hrow0, hid (Below.refl _ _)⟩
      have := HG.out.rooms s h0 h1
      simp [loadOf]; omega
    case round =>
      obtain ⟨k, ld, hk, hgk, rfl, hld, hrw, hbw⟩ := hrel
      have hbr : Below W.heap.size W wr := HB1.out.trans hbw.out
      have HBR := hid (HBW.out.trans (hbr.mono HBW.out.size))
      have kw := Kept.of_below hbr
      by_cases hlt : k < l.length
      · have hkf : k < b.fits.length := by rw [← HLEN.out]; exact hlt
        obtain ⟨lb, loff, rfl, hlc⟩ := hLW.out (by omega)
        have hlk := kw _ _ (hlc k hlt)
        have hlb : lb < W.heap.size := cell_lt (hlc k hlt)
        obtain ⟨fb, foff, rfl, hfc⟩ := hBW.out.fits (by omega)
        obtain ⟨Aj, cj, f1, f2⟩ := hfc k hkf
        have hlenL := HFI.out.lens _ (List.getElem_mem hkf)
        obtain ⟨L, hL⟩ : ∃ L, L = b.fits[k] := ⟨_, rfl⟩
        rw [← hL] at f1 f2 hlenL
        have HL : Hid (fitOf b.fits k = L) := hid ((fitOf_lt hkf).trans hL.symm)
        have HLK : Hid (hasOf l k = l[k]) := hid (hasOf_lt hlt)
        have hi0 : (0 : Int) ≤ k := by omega
        have hi1 : (k : Int) < b.fits.length := by omega
        have hi2 : (k : Int) < l.length := by omega
        have f1' := kw _ _ f1
        have hwB1 := hbw.out.cell (p := ⟨w.heap.size, 1, none⟩) hlW
        have hwB2 := hbw.out.cell (p := ⟨w.heap.size, 2, none⟩) hlW
        have q1 := hwB1.trans K1.out
        have q2 := hwB2.trans K2.out
        have F2 := hid (f2.kept kw)
        have hbad : ¬ ((fitOf b.fits k = [] → hasOf l k = -1) ∧ (fitOf b.fits k ≠ [] → hasOf l k ∈ fitOf b.fits k)) → asB b l = false := fun h => asB_no (fun ha => h ⟨ha.nobody k, ha.fit k⟩)
        have HBAD := hid hbad
        clear hlc hfc hL f1 f2 hbad hwB1 hwB2
        by_cases h0 : L.length = 0
        · have d2 : ((L.length : Int) == 0) = true := beq_iff_eq.2 (by omega)
          have HE : Hid (fitOf b.fits k = []) := hid (by rw [HL.out]; exact List.eq_nil_of_length_eq_zero h0)
          clear h0
          by_cases hm : l[k] = -1
          · have d3 : (l[k] != (-1 : Int)) = false := by rw [bne_eq_false_iff_eq]; exact hm
            have HM := hid hm
            clear hm
            go_wp2_with fail
            go_roundg (l.length - (k + 1))
            case measure => omega
            case rel =>
              have hsame : ∀ s : Int, 0 ≤ s → loadOf (l.take (k + 1)) s = loadOf (l.take k) s := fun s h0 => by
                rw [load_snoc hlt, if_neg (by have := HM.out; omega)]; omega
              refine ⟨k + 1, ld, by omega, rfl, by go_num, hid ⟨hld.out.len, fun s h => by rw [hsame _ (by omega)]; exact hld.out.val s h, fun i hi => ?_, fun s h0 h1 => by rw [hsame s h0]; exact hld.out.few s h0 h1⟩, hrw, hbw⟩
              rcases Nat.lt_or_ge i k with h | h
              · exact hld.out.fits i h
              · obtain rfl : i = k := by omega
                exact ⟨fun _ => by rw [HLK.out]; exact HM.out, fun h => absurd HE.out h⟩
          · have d3 : (l[k] != (-1 : Int)) = true := by rw [bne_iff_ne]; exact hm
            have HM := hid hm
            clear hm
            go_wp2_with fail
            go_ret
            exact ⟨ret_bool (by rw [← HT.out]; exact (HBAD.out (fun h => HM.out (by rw [← HLK.out]; exact h.1 HE.out))).symm), HBR.out⟩
        · have d2 : ((L.length : Int) == 0) = false := beq_eq_false_iff_ne.2 (by omega)
          have HNE : Hid (fitOf b.fits k ≠ []) := hid (by rw [HL.out]; intro h; rw [h] at h0; simp at h0)
          clear h0
          rcases hmem : decide (l[k] ∈ L) with _ | _
          · have HM := hid hmem
            clear hmem
            go_wp2_with fail
            go_quiet ((go_at_call 33; refine Calls.quietly (has_q _ _ _ _ _ (by omega) F2.out.dn HM.out)))
            go_wp2_with fail
            go_ret
            exact ⟨ret_bool (by rw [← HT.out]; exact (HBAD.out (fun h => of_decide_eq_false HM.out (by rw [← HLK.out, ← HL.out]; exact h.2 HNE.out))).symm), Below.drewN' HBR.out _⟩
          · have HM := hid hmem
            have hin := HG.out.inside k l[k] (by rw [HL.out]; exact of_decide_eq_true hmem)
            have hpl := pieces_length b.slots
            obtain ⟨s, hs⟩ : ∃ s : Nat, l[k] = (s : Int) := ⟨l[k].toNat, by omega⟩
            have HSE := hid hs
            have hsl : s < b.slots.length := by omega
            have hsd : s < ld.length := by rw [hld.out.len]; exact hsl
            rw [hs] at hlk
            have HM2 : Hid (decide ((s : Int) ∈ L) = true) := hid (by rw [← hs]; exact hmem)
            have g1 := (hrw.out s hsd).1
            have g2 := (hrw.out s hsd).2
            have hvl := hld.out.val s hsd
            have hrange := load_take_len l k (s : Int)
            rw [← hvl] at hrange
            have r1 := hrange.1
            have r2 := hrange.2
            obtain ⟨sb, soff, rfl, hsc⟩ := hBW.out.slots (by omega)
            have p2 := kw _ _ (hsc s hsl).2.2
            have hsb : sb < W.heap.size := cell_lt (hsc s hsl).2.2
            have z1 : (0 : Int) ≤ s := by omega
            have z2 : (s : Int) < b.slots.length := by omega
            have HV := hid hvl
            have HRO : Hid (roomOf (pieces b.slots) (s : Int) = b.slots[s].pieces) := hid (piece_of hsl)
            have HPL := hid hpl
            obtain ⟨x, hx⟩ : ∃ x, ld[s] = x := ⟨_, rfl⟩
            simp only [hx] at g1 r1 r2
            have HX := hid hx
            have HSD := hid hsd
            clear hmem hin hs hvl hrange hsc hpl hx
            go_wp2_with fail
            go_quiet ((go_at_call 33; refine Calls.quietly (has_q _ _ _ _ _ (by omega) F2.out.dn HM2.out)))
            go_wp2_with fail
            go_region
            go_wp2_with fail
            obtain ⟨W4, hW4⟩ : ∃ W4, (wr.drewN (nq + 1)).setCell ⟨W.heap.size, s, none⟩ (.int .i64 (x + 1)) = W4 := ⟨_, rfl⟩
            rw [hW4]
            have o4 : Below W.heap.size wr W4 := by rw [← hW4]; exact ((Below.drewN' (Below.refl _ _) _)).setCell (p := ⟨W.heap.size, s, none⟩) (Nat.le_refl _) _
            have u1 := (o4.cell (p := ⟨lb, loff + k, none⟩) hlb).trans hlk
            have u2 := (o4.cell (p := ⟨w.heap.size, 1, none⟩) hlW).trans q1
            have u3 := (o4.cell (p := ⟨sb, soff + s * 3 + 2, none⟩) hsb).trans p2
            have u4' : W4.cell? ⟨W.heap.size, s, none⟩ = some (.int .i64 (x + 1)) := by
              rw [← hW4]; exact setCell_same' (show (wr.drewN (nq + 1)).cell? ⟨W.heap.size, s, none⟩ = some (.int .i64 x) from g1)
            have hrw4 : Hid (RowAt (Value.int .i64) W4 W.heap.size (ld.set s (x + 1))) := hid (by
              rw [← hW4]; exact (show RowAt (Value.int .i64) (wr.drewN (nq + 1)) W.heap.size ld from hrw.out).set s (x + 1))
            have O4 := hid o4
            have hval : Hid (∀ y : Nat, (h : y < (ld.set s (x + 1)).length) → (ld.set s (x + 1))[y] = loadOf (l.take (k + 1)) (y : Int)) := hid (by
              intro y hy
              rw [List.length_set] at hy
              rw [load_snoc hlt, HSE.out, List.getElem_set]
              by_cases e : s = y
              · subst e
                rw [if_pos rfl, if_pos rfl, ← HX.out, HV.out]
              · rw [if_neg e, if_neg (by omega), hld.out.val y hy]; omega)
            have hover : Hid (b.slots[s].pieces < x + 1 → asB b l = false) := hid (fun h => asB_no (fun ha => by
              have h1 := ha.loads (s : Int) (by omega) (by rw [HPL.out]; omega)
              have h2 := load_take_le l (k + 1) (s : Int)
              rw [load_snoc hlt, HSE.out, if_pos rfl, ← HV.out, HX.out] at h2
              rw [HRO.out] at h1
              omega))
            have hnext : Hid (¬ b.slots[s].pieces < x + 1 → LoadTo b l (k + 1) (ld.set s (x + 1))) := hid (fun h => by
              refine ⟨by rw [List.length_set]; exact hld.out.len, hval.out, fun i hi => ?_, fun y h0 h1 => ?_⟩
              · rcases Nat.lt_or_ge i k with h2 | h2
                · exact hld.out.fits i h2
                · obtain rfl : i = k := by omega
                  exact ⟨fun e => absurd e HNE.out, fun _ => by rw [HLK.out, HL.out]; exact of_decide_eq_true HM.out⟩
              · rw [load_snoc hlt, HSE.out]
                have h2 := hld.out.few y h0 h1
                by_cases e : (s : Int) = y
                · subst e
                  rw [if_pos rfl, HRO.out, ← HV.out, HX.out]; omega
                · rw [if_neg e]; omega)
            clear o4 g1 g2 hlk q1 q2 p2 f1' hW4
            by_cases hgt : b.slots[s].pieces < x + 1
            · have d4 : decide (b.slots[s].pieces < x + 1) = true := decide_eq_true hgt
              have HGT := hid hgt
              go_quiet (fail)
              go_wp2_with fail
              go_ret
              exact ⟨ret_bool (by rw [← HT.out]; exact (hover.out HGT.out).symm), Below.drewN' (HBR.out.trans (O4.out.mono HBW.out.size)) _⟩
            · have d4 : decide (b.slots[s].pieces < x + 1) = false := decide_eq_false hgt
              have HGT := hid hgt
              go_quiet (fail)
              go_wp2_with fail
              go_roundg (l.length - (k + 1))
              case measure => omega
              case rel => exact ⟨k + 1, _, by omega, rfl, by go_num, hid (hnext.out HGT.out), hrw4, hid (Below.drewN' (hbw.out.trans O4.out) _)⟩
      · obtain rfl : k = l.length := by omega
        go_wp2_with fail
        go_ret
        exact ⟨ret_bool (by rw [← HT.out]; exact (asB_yes (hld.out.as HLEN.out)).symm), HBR.out⟩
end Go.Proofs.Ytpmdjbjnihhjeaa
