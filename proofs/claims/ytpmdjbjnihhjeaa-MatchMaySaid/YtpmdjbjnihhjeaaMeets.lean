/- Meets; Nobody; the reference's Meets and Nobody. -/
import Derived.Test.YtpmdjbjnihhjeaaMatched
import Derived.Test.YtpmdjbjnihhjeaaRefCheck
namespace Go.Proofs.Ytpmdjbjnihhjeaa
open Go.RowKit

open Classical in
/-- A list is an assignment. -/
noncomputable def asB (b : Board) (l : List Int) : Bool := decide (b.As l)
theorem asB_true {b : Board} {l : List Int} : asB b l = true ↔ b.As l := by simp [asB]
theorem asB_yes {b : Board} {l : List Int} (h : b.As l) : asB b l = true := asB_true.2 h
theorem asB_no {b : Board} {l : List Int} (h : ¬ b.As l) : asB b l = false := by
  rcases e : asB b l with _ | _
  · rfl
  · exact absurd (asB_true.1 e) h

def MeetsAt (b : Board) (l : List Int) (i : Nat) : Prop := (fitOf b.fits i = [] → hasOf l i = -1) ∧ (fitOf b.fits i ≠ [] → hasOf l i ∈ fitOf b.fits i ∧ loadOf l (hasOf l i) ≤ roomOf (pieces b.slots) (hasOf l i))
theorem meets_all {b : Board} {l : List Int} (hr : ∀ s : Int, 0 ≤ s → s < (pieces b.slots).length → 0 ≤ roomOf (pieces b.slots) s) (hl : l.length = b.fits.length) (h : ∀ i, i < l.length → MeetsAt b l i) : b.As l := by
  refine ⟨hl, fun f hf => ?_, fun f hf => ((h f (by rw [hl]; exact fitOf_ne hf)).2 hf).1, fun s h0 h1 => ?_⟩
  · rcases Nat.lt_or_ge f l.length with hlt | hge
    · exact (h f hlt).1 hf
    · exact hasOf_ge hge
  · by_cases hm : s ∈ l
    · obtain ⟨i, hi, rfl⟩ := List.getElem_of_mem hm
      have h2 := h i hi
      rw [← hasOf_lt hi] at h0 ⊢
      by_cases e : fitOf b.fits i = []
      · have := h2.1 e; omega
      · exact (h2.2 e).2
    · have : loadOf l s = 0 := by unfold loadOf; rw [List.count_eq_zero_of_not_mem hm]; rfl
      rw [this]; exact hr s h0 h1
theorem as_at {b : Board} {l : List Int} (hw : Inside b.fits (pieces b.slots).length) (h : b.As l) (i : Nat) : MeetsAt b l i :=
  ⟨h.nobody i, fun e => ⟨h.fit i e, h.loads _ (hw i _ (h.fit i e)).1 (hw i _ (h.fit i e)).2⟩⟩

/-- What Meets comes to. -/
def MeetsPost (b : Board) (l : List Int) (w : World) (e : Ending) (w' : World) : Prop :=
  Below w.heap.size w w' ∧ ((b.check ≠ 0 ∧ e = .returned (.tuple #[.bool false, .int .i64 b.check])) ∨ (b.check = 0 ∧ e = .returned (.tuple #[.bool (asB b l), .int .i64 0])))

theorem ret_b0 {t u : Bool} (h : t = u) : Ending.returned (.tuple #[.bool t, .int .i64 0]) = .returned (.tuple #[.bool u, .int .i64 0]) := by rw [h]

theorem contains_q (A : Option Addr) (cap : Nat) (xs : List Int) (n : Int) (w : World) (hm : xs.length ≤ 9223372036854775807) (hA : IntsAt w A xs) {t : Bool} (ht : decide (n ∈ xs) = t) :
    Calls Try.prog 59 #[.slice A xs.length cap, .int .i64 n] w fun e w' => e = .returned (.bool t) ∧ Drew w w' :=
  (contains_t A cap xs n w hm hA ht).mono fun _ _ ⟨h, e⟩ => ⟨h, by subst e; exact Drew.refl _⟩
theorem keep4 {W1 wa wb : World} {p0 p1 p2 p3 : Addr} {v0 v1 v2 v3 : Value} (h : wa.cell? p0 = some v0 ∧ wa.cell? p1 = some v1 ∧ wa.cell? p2 = some v2 ∧ wa.cell? p3 = some v3 ∧ Below W1.heap.size W1 wa) (hb : Below wa.heap.size wa wb) :
    wb.cell? p0 = some v0 ∧ wb.cell? p1 = some v1 ∧ wb.cell? p2 = some v2 ∧ wb.cell? p3 = some v3 ∧ Below W1.heap.size W1 wb :=
  have k := Kept.of_below hb
  ⟨k _ _ h.1, k _ _ h.2.1, k _ _ h.2.2.1, k _ _ h.2.2.2.1, h.2.2.2.2.trans (hb.mono h.2.2.2.2.size)⟩

set_option maxRecDepth 100000 in
set_option maxHeartbeats 8000000 in
theorem meets_any (b : Board) (Af As At Al : Option Addr) (cf cs ct cl : Nat) (l : List Int) (w : World) (hs : b.small) (hl80 : l.length ≤ 80) (hB : BoardAt w Af As At b) (hL : IntsAt w Al l) :
    Calls Try.prog 36 #[.agg #[.slice Af b.finds.length cf, .slice As b.slots.length cs, .slice At b.fits.length ct], .slice Al l.length cl] w (MeetsPost b l w) := by
  have HS := hid hs
  obtain ⟨W, hW, c0, c1, c2, hbW, hz⟩ := box3 w (.slice Af b.finds.length cf) (.slice As b.slots.length cs) (.slice At b.fits.length ct) 26
  have HBW := hid hbW
  have hBW := hid (hB.kept (Kept.of_below hbW))
  have hLW := hid (hL.kept (Kept.of_below hbW))
  clear hz hbW hB hs hL
  by_cases hc : b.check = 0
  case neg =>
    have d1 : (b.check != 0) = true := by simpa using hc
    have HC := hid hc
    clear hc
    go_enter Try.func36, Try.ntmps36
    go_wp2_with fail
    refine (check_any Af As At cf cs ct b W HS.out hBW.out).mono ?_
    rintro e w1 ⟨rfl, hb1⟩
    have HB1 := hid hb1
    clear hb1
    go_wp2_with fail
    go_ret2
    exact ⟨HBW.out.trans (HB1.out.mono HBW.out.size), .inl ⟨HC.out, rfl⟩⟩
  case pos =>
    have HC := hid hc
    have HG := hid (Board.check_good hc)
    have HFI := hid (Board.check_fine HS.out hc)
    have hnn := Board.check_sizes hc
    have hn60 := hnn.1
    clear hc hnn
    by_cases hlen : l.length = b.finds.length
    case neg =>
      have d1 : ((l.length : Int) != (b.finds.length : Int)) = true := by rw [bne_iff_ne]; omega
      have HLEN := hid hlen
      clear hlen
      go_enter Try.func36, Try.ntmps36
      go_wp2_with fail
      refine (check_t Af As At cf cs ct b W HS.out hBW.out HC.out).mono ?_
      rintro e w1 ⟨rfl, hb1⟩
      have k0 := (Kept.of_below hb1) _ _ c0
      have HB1 := hid hb1
      clear hb1 hW
      go_wp2_with fail
      go_ret2
      exact ⟨HBW.out.trans (HB1.out.mono HBW.out.size), .inr ⟨HC.out, ret_b0 (asB_no (fun h => HLEN.out (by rw [h.len]; exact HFI.out.fits))).symm⟩⟩
    case pos =>
      have d1 : ((l.length : Int) != (b.finds.length : Int)) = false := by rw [bne_eq_false_iff_eq]; omega
      have HLEN : Hid (l.length = b.fits.length) := hid (by rw [HFI.out.fits]; exact hlen)
      clear hlen
      go_enter Try.func36, Try.ntmps36
      go_wp2_with fail
      refine (check_t Af As At cf cs ct b W HS.out hBW.out HC.out).mono ?_
      rintro e w1 ⟨rfl, hb1⟩
      have k0 := (Kept.of_below hb1) _ _ c0
      have k1 := (Kept.of_below hb1) _ _ c1
      have k2 := (Kept.of_below hb1) _ _ c2
      have HB1 := hid hb1
      clear hb1 hW c0 c1 c2
      go_wp2_with fail
      refine (tried_any b Af As At cf cs ct w1 HFI.out.finds HFI.out.slots HFI.out.fits (hBW.out.kept (Kept.of_below HB1.out))).mono ?_
      rintro e w2 ⟨tb, hb, rb, rfl, hT⟩
      have HT := hid hT
      have kT := Kept.of_below hT.kept
      have m0 := kT _ _ k0
      have m2 := kT _ _ k2
      obtain ⟨ch, t4⟩ := hT.hasAt
      obtain ⟨Ar, cr, t3, t3r⟩ := hT.roomAt
      have htb := hT.lt.2
      have t4f := hT.free 4
      have hlo := hT.lo.1
      have hk0 : w.heap.size < w1.heap.size := cell_lt k0
      obtain ⟨W3, hW3⟩ : ∃ W3, w2.setCell ⟨tb, 4, none⟩ (.slice Al l.length cl) = W3 := ⟨_, rfl⟩
      have h23 : Below w1.heap.size w1 W3 := by rw [← hW3]; exact hT.kept.setCell (p := ⟨tb, 4, none⟩) hlo _
      have H13 := hid h23
      have p2 := (Kept.of_below h23) _ _ k2
      have p3 : W3.cell? ⟨tb, 3, none⟩ = some (.slice Ar (pieces b.slots).length cr) := by
        rw [← hW3, World.cell?_setCell_other _ _ _ _ (by simp)]; exact t3
      have p4 : W3.cell? ⟨tb, 4, none⟩ = some (.slice Al l.length cl) := by rw [← hW3]; exact setCell_same' t4
      have hroomRow : Hid (RowAt (Value.int .i64) W3 rb (pieces b.slots)) := hid (by rw [← hW3]; exact hT.roomRow.setOther (p := ⟨tb, 4, none⟩) hT.ne.2.2 _)
      have P2 := hid p2
      have P3 := hid p3
      have P4 := hid p4
      have T3R := hid t3r
      have hL3 := hid ((hLW.out.kept (Kept.of_below HB1.out)).kept (Kept.of_below h23))
      have hB3 := hid ((hBW.out.kept (Kept.of_below HB1.out)).kept (Kept.of_below h23))
      clear hT kT h23 p2 p3 p4 t3 t3r
      go_wp2_with fail
      clear hW3 m0 m2 t4 t4f k0 k1 k2
      have HBB : Hid (Below w.heap.size w W3) := hid ((HBW.out.trans (HB1.out.mono HBW.out.size)).trans (H13.out.mono (Nat.le_trans HBW.out.size HB1.out.size)))
      go_loopg [29] (l.length) (fun g i wr => ∃ k : Nat, k ≤ l.length ∧ g = l.length - k ∧ i = .int .i64 k ∧ Hid (∀ j, j < k → MeetsAt b l j) ∧ Hid (Below W3.heap.size W3 wr))
      case atStart => exact ⟨0, by omega, by omega, rfl, hid (fun j h => by omega), hid (Below.refl _ _)⟩
      case round =>
        obtain ⟨k, hk, hgk, rfl, hat, hbw⟩ := hrel
        have kw := Kept.of_below hbw.out
        by_cases hlt : k < l.length
        · have hkf : k < b.fits.length := by rw [← HLEN.out]; exact hlt
          obtain ⟨lb, loff, rfl, hlc⟩ := hL3.out (by omega)
          have hlk := kw _ _ (hlc k hlt)
          obtain ⟨fb, foff, rfl, hfc⟩ := hB3.out.fits (by omega)
          obtain ⟨Aj, cj, f1, f2⟩ := hfc k hkf
          have hlenL := HFI.out.lens _ (List.getElem_mem hkf)
          obtain ⟨L, hL⟩ : ∃ L, L = b.fits[k] := ⟨_, rfl⟩
          rw [← hL] at f1 f2 hlenL
          have HL : Hid (fitOf b.fits k = L) := hid ((fitOf_lt hkf).trans hL.symm)
          have HLK : Hid (hasOf l k = l[k]) := hid (hasOf_lt hlt)
          have hi0 : (0 : Int) ≤ k := by omega
          have hi1 : (k : Int) < b.fits.length := by omega
          have f1' := kw _ _ f1
          have q2 := kw _ _ P2.out
          have F2 := hid (f2.kept kw)
          have hnk : (∀ j, j < k → MeetsAt b l j) → MeetsAt b l k → ∀ j, j < k + 1 → MeetsAt b l j := fun h1 h2 j hj => by
            rcases Nat.lt_or_ge j k with h | h
            · exact h1 j h
            · obtain rfl : j = k := by omega
              exact h2
          have HNK := hid (fun h => hnk hat.out h)
          have hbad : ¬ MeetsAt b l k → asB b l = false := fun h => asB_no (fun ha => h (as_at HG.out.inside ha k))
          have HBAD := hid hbad
          have HBR := hid (HBB.out.trans (hbw.out.mono HBB.out.size))
          clear hlc hfc hL f1 f2 hnk hbad
          by_cases h0 : L.length = 0
          · have d2 : ((L.length : Int) == 0) = true := beq_iff_eq.2 (by omega)
            have HE : Hid (fitOf b.fits k = []) := hid (by rw [HL.out]; exact List.eq_nil_of_length_eq_zero h0)
            clear h0
            by_cases hm : l[k] = -1
            · have d3 : (l[k] != (-1 : Int)) = false := by rw [bne_eq_false_iff_eq]; exact hm
              have HM := hid hm
              clear hm
              go_wp2_with fail
              go_roundg (l.length - (k + 1))
              case measure => omega
              case rel => exact ⟨k + 1, by omega, rfl, by go_num, hid (HNK.out ⟨fun _ => by rw [HLK.out]; exact HM.out, fun h => absurd HE.out h⟩), hbw⟩
            · have d3 : (l[k] != (-1 : Int)) = true := by rw [bne_iff_ne]; exact hm
              have HM := hid hm
              clear hm
              go_wp2_with fail
              go_ret2
              exact ⟨HBR.out, .inr ⟨HC.out, ret_b0 (HBAD.out (fun h => HM.out (by rw [← HLK.out]; exact h.1 HE.out))).symm⟩⟩
          · have d2 : ((L.length : Int) == 0) = false := beq_eq_false_iff_ne.2 (by omega)
            have HNE : Hid (fitOf b.fits k ≠ []) := hid (by rw [HL.out]; intro h; rw [h] at h0; simp at h0)
            clear h0
            rcases hmem : decide (l[k] ∈ L) with _ | _
            · have HM := hid hmem
              clear hmem
              go_wp2_with fail
              go_quiet ((go_at_call 59; refine Calls.quietly (contains_q _ _ _ _ _ (by omega) F2.out.dn HM.out)))
              go_wp2_with fail
              go_ret2
              exact ⟨HBR.out.trans (Below.drewN' (Below.refl _ _) _), .inr ⟨HC.out, ret_b0 (HBAD.out (fun h => of_decide_eq_false HM.out (by rw [← HLK.out, ← HL.out]; exact (h.2 HNE.out).1))).symm⟩⟩
            · have HM := hid hmem
              have hin := HG.out.inside k l[k] (by rw [HL.out]; exact of_decide_eq_true hmem)
              obtain ⟨s, hs⟩ : ∃ s : Nat, l[k] = (s : Int) := ⟨l[k].toNat, by omega⟩
              have HSE := hid hs
              have hsl : s < (pieces b.slots).length := by omega
              rw [hs] at hlk
              have hAr := T3R.out (by omega)
              subst hAr
              have q3 := kw _ _ P3.out
              have q5 := kw _ _ (hroomRow.out s hsl).1
              have HM2 : Hid (decide ((s : Int) ∈ L) = true) := hid (by rw [← hs]; exact hmem)
              have HRO : Hid (roomOf (pieces b.slots) (s : Int) = (pieces b.slots)[s]) := hid (roomOf_lt hsl)
              have z1 : (0 : Int) ≤ s := by omega
              have z2 : (s : Int) < (pieces b.slots).length := by omega
              have hload := fun (wx : World) (hx : Below wr.heap.size wr wx) => load_any tb cl (some ⟨lb, loff, none⟩) l s (by omega) wx ((kw.trans (Kept.of_below hx)) _ _ P4.out) ((hL3.out.kept kw).kept (Kept.of_below hx)) (intsAt_lt ((hL3.out.kept kw).kept (Kept.of_below hx)) (by omega))
              have HLOAD := hid hload
              have HKW := hid kw
              clear hmem hin hs hload kw
              go_wp2_with fail
              go_cut [63] from 30 to 64 (fun s63 wx => s63 = .bool (decide ((pieces b.slots)[s] < loadOf l s)) ∧ Below wr.heap.size wr wx)
              case first =>
                go_region_held3 (fun w' => w'.cell? ⟨w.heap.size, 2, none⟩ = some (.slice (some ⟨fb, foff, none⟩) b.fits.length ct) ∧ w'.cell? ⟨fb, foff + k, none⟩ = some (.slice Aj L.length cj) ∧ w'.cell? ⟨tb, 3, none⟩ = some (.slice (some ⟨rb, 0, none⟩) (pieces b.slots).length cr) ∧ w'.cell? ⟨rb, s, none⟩ = some (.int .i64 (pieces b.slots)[s]) ∧ Below wr.heap.size wr w')
                  (first | exact ⟨q2, f1', q3, q5, (Below.refl _ _).drew⟩ | assumption | exact keep4 (by assumption) hbel)
                  (first
                    | (go_at_call 59; refine (contains_t _ _ _ _ _ (by omega) (F2.out.kept (Kept.of_below (And.right (And.right (And.right (And.right (by assumption))))))) HM2.out).mono ?_; rintro e w' ⟨rfl, rfl⟩)
                    | (go_at_call 74; refine (HLOAD.out _ (And.right (And.right (And.right (And.right (by assumption)))))).mono ?_; rintro e w' ⟨rfl, hbel⟩))
                all_goals
                  go_wp2_with fail
                  go_meet
                  exact ⟨by rw [hold_load], And.right (And.right (And.right (And.right (by assumption))))⟩
              case rest =>
                obtain ⟨h63, hbx⟩ := hcut
                have HBX := hid hbx
                clear hbx
                by_cases hgt : (pieces b.slots)[s] < loadOf l s
                · rw [decide_eq_true hgt] at h63
                  subst h63
                  have HGT := hid hgt
                  clear hgt
                  go_wp2_with fail
                  go_ret2
                  refine ⟨HBR.out.trans (HBX.out.mono HBR.out.size), .inr ⟨HC.out, ret_b0 (HBAD.out (fun h => ?_)).symm⟩⟩
                  have := (h.2 HNE.out).2
                  rw [HLK.out, HSE.out, HRO.out] at this
                  have := HGT.out
                  omega
                · rw [decide_eq_false hgt] at h63
                  subst h63
                  have HGT := hid hgt
                  clear hgt
                  go_wp2_with fail
                  go_roundg (l.length - (k + 1))
                  case measure => omega
                  case rel =>
                    refine ⟨k + 1, by omega, rfl, by go_num, hid (HNK.out ⟨fun h => absurd h HNE.out, fun _ => ⟨?_, ?_⟩⟩), hid (hbw.out.trans (HBX.out.mono hbw.out.size))⟩
                    · rw [HLK.out, HL.out]; exact of_decide_eq_true HM.out
                    · rw [HLK.out, HSE.out, HRO.out]; have := HGT.out; omega
        · go_wp2_with fail
          go_ret2
          refine ⟨HBB.out.trans (hbw.out.mono HBB.out.size), .inr ⟨HC.out, ret_b0 (asB_yes (meets_all (fun s h0 h1 => by have := HG.out.rooms s h0 h1; omega) HLEN.out (fun i hi => hat.out i (by omega)))).symm⟩⟩
end Go.Proofs.Ytpmdjbjnihhjeaa
