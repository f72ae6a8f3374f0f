/- An assignment that gives a find a slot, made of another one, walked. -/
import Derived.Test.YtpmdjbjnihhjeaaSome
namespace Go.Proofs.Ytpmdjbjnihhjeaa
open Go.RowKit

/-- What with(find, slot) comes to. -/
def WithPost (fits : List (List Int)) (room : List Int) (f : Nat) (slot : Int) (w : World) (e : Ending) (w' : World) : Prop :=
  Below w.heap.size w w' ∧
    ((∃ A c a, e = .returned (.tuple #[.slice A a.length c, .bool true]) ∧ IntsAt w' A a ∧ Asg fits room a ∧ hasOf a f = slot) ∨
     (e = .returned (.tuple #[.slice none 0 0, .bool false]) ∧ ∀ a, Asg fits room a → hasOf a f ≠ slot))

theorem TriedAt.board_now {w0 w : World} {tb hb rb : Nat} {b : Board} {room has : List Int} (h : TriedAt w0 w tb hb rb b room has) :
    ∃ Af As At cf cs ct, BoardAt w Af As At b ∧ w.cell? ⟨tb, 0, none⟩ = some (.slice Af b.finds.length cf) ∧ w.cell? ⟨tb, 1, none⟩ = some (.slice As b.slots.length cs) ∧ w.cell? ⟨tb, 2, none⟩ = some (.slice At b.fits.length ct) := by
  obtain ⟨Af, As, At, cf, cs, ct, hB, h0, h1, h2⟩ := h.boardAt
  exact ⟨Af, As, At, cf, cs, ct, hB.kept (Kept.of_below h.kept), h0, h1, h2⟩

theorem contains_t (A : Option Addr) (cap : Nat) (xs : List Int) (n : Int) (w : World) (hm : xs.length ≤ 9223372036854775807) (hA : IntsAt w A xs) {t : Bool} (ht : decide (n ∈ xs) = t) :
    Calls Try.prog 59 #[.slice A xs.length cap, .int .i64 n] w fun e w' => e = .returned (.bool t) ∧ w = w' := by
  subst ht
  exact contains_any A cap xs n w hm hA
theorem copiedInts_n (A : Option Addr) (cap n : Nat) (xs : List Int) (w : World) (hn : xs.length = n) (hm : xs.length ≤ 1000) (hA : IntsAt w A xs) :
    Calls Try.prog 88 #[.slice A n cap] w fun e w' => ∃ A' c, e = .returned (.slice A' n c) ∧ w'.ownsRow w.heap.size 3 1 (.slice A' xs.length c) xs.length (ints xs) ∧ Below w.heap.size w w' := by
  subst hn
  refine (copiedInts_any A cap xs w hm hA).mono ?_
  rintro e w' ⟨v, rfl, ho, hb⟩
  obtain ⟨A', c, rfl, _⟩ := ownsRow.form ho
  exact ⟨A', c, rfl, ho, hb⟩
theorem not_fits {fits : List (List Int)} {room a L : List Int} {f : Nat} {slot : Int} (ha : Asg fits room a) (hL : fitOf fits f = L) (hs : 0 ≤ slot) (hm : slot ∉ L) : hasOf a f ≠ slot := fun e => by
  by_cases h : fitOf fits f = []
  · have := ha.nobody f h; omega
  · have := ha.fit f h
    rw [e, hL] at this
    exact hm this

theorem keep2 {W1 wa wb : World} {p1 p2 : Addr} {v1 v2 : Value} (h : wa.cell? p1 = some v1 ∧ wa.cell? p2 = some v2 ∧ Below W1.heap.size W1 wa) (hb : Below wa.heap.size wa wb) :
    wb.cell? p1 = some v1 ∧ wb.cell? p2 = some v2 ∧ Below W1.heap.size W1 wb :=
  have k := Kept.of_below hb
  ⟨k _ _ h.1, k _ _ h.2.1, h.2.2.trans (hb.mono h.2.2.size)⟩
theorem less_eq {room : List Int} {s : Nat} (h : s < room.length) : less room (s : Int) = room.set s (room[s] - 1) := by
  unfold less
  rw [roomOf_lt h, Int.toNat_natCast]

theorem ret_sl {A : Option Addr} {c : Nat} {t : Bool} {n m : Nat} (h : n = m) : Ending.returned (.tuple #[.slice A n c, .bool t]) = .returned (.tuple #[.slice A m c, .bool t]) := by rw [h]

theorem keep5 {W1 wa wb : World} {p0 p1 p2 p3 p4 : Addr} {v0 v1 v2 v3 v4 : Value} (h : wa.cell? p0 = some v0 ∧ wa.cell? p1 = some v1 ∧ wa.cell? p2 = some v2 ∧ wa.cell? p3 = some v3 ∧ wa.cell? p4 = some v4 ∧ Below W1.heap.size W1 wa) (hb : Below wa.heap.size wa wb) :
    wb.cell? p0 = some v0 ∧ wb.cell? p1 = some v1 ∧ wb.cell? p2 = some v2 ∧ wb.cell? p3 = some v3 ∧ wb.cell? p4 = some v4 ∧ Below W1.heap.size W1 wb :=
  have k := Kept.of_below hb
  ⟨k _ _ h.1, k _ _ h.2.1, k _ _ h.2.2.1, k _ _ h.2.2.2.1, k _ _ h.2.2.2.2.1, h.2.2.2.2.2.trans (hb.mono h.2.2.2.2.2.size)⟩

theorem tried_boxed {w wz : World} {b : Board} {room has : List Int} {Af As At : Option Addr} {cf cs ct ur uh cR cH : Nat} (hB : BoardAt w Af As At b) (hlr : room.length = b.slots.length) (hb : Below w.heap.size w wz)
    (hR : RowAt (Value.int .i64) wz ur room) (hH : RowAt (Value.int .i64) wz uh has) (h1 : w.heap.size ≤ ur) (h2 : w.heap.size ≤ uh) (h3 : ur < wz.heap.size) (h4 : uh < wz.heap.size) (h5 : ur ≠ uh) :
    TriedAt w (wz.alloc (.cells #[.slice Af b.finds.length cf, .slice As b.slots.length cs, .slice At b.fits.length ct, .slice (some ⟨ur, 0, none⟩) room.length cR, .slice (some ⟨uh, 0, none⟩) b.fits.length cH] 80)) wz.heap.size uh ur b room has := by
  have hal : Below wz.heap.size wz (wz.alloc (.cells #[.slice Af b.finds.length cf, .slice As b.slots.length cs, .slice At b.fits.length ct, .slice (some ⟨ur, 0, none⟩) room.length cR, .slice (some ⟨uh, 0, none⟩) b.fits.length cH] 80)) := (Below.refl _ _).alloc (Nat.le_refl _) _
  refine ⟨⟨Af, As, At, cf, cs, ct, hB, by simp, by simp, by simp⟩, ⟨_, cR, by simp, fun _ => rfl⟩, hR.below hal, hlr, ⟨cH, by simp⟩, hH.below hal, ⟨hb.size, h2, h1⟩, ⟨by omega, fun e => h5 e.symm, by omega⟩, ⟨by simp; omega, by simp⟩, hb.trans (hal.mono hb.size), fun o => by simp⟩

/-- Two rows that a call has made one behind the other. -/
theorem two_rows {w wa wb wc : World} {xs ys : List Int} {A B : Option Addr} {c d : Nat} (hw : w.heap.size = wa.heap.size) (h1 : Below w.heap.size w wa) (ho : wb.ownsRow wa.heap.size 3 1 (.slice A xs.length c) xs.length (ints xs)) (h2 : Below wa.heap.size wa wb)
    (ho2 : wc.ownsRow wb.heap.size 3 1 (.slice B ys.length d) ys.length (ints ys)) (h3 : Below wb.heap.size wb wc) (hx : 0 < xs.length) (hy : 0 < ys.length) :
    ∃ g h, A = some ⟨g, 0, none⟩ ∧ B = some ⟨h, 0, none⟩ ∧ RowAt (Value.int .i64) wc g xs ∧ RowAt (Value.int .i64) wc h ys ∧ w.heap.size ≤ g ∧ w.heap.size ≤ h ∧ g < wc.heap.size ∧ h < wc.heap.size ∧ g ≠ h ∧ Below w.heap.size w wc := by
  obtain ⟨g, c', e, hg, _⟩ := own_slice ho hx
  cases e
  obtain ⟨h, d', e, hh, _⟩ := own_slice ho2 hy
  cases e
  have r1 := RowAt.of_own ho
  have r2 := RowAt.of_own ho2
  have l1 := r1.lt hx
  have l2 := r2.lt hy
  have := h3.size
  have := h2.size
  exact ⟨g, h, rfl, rfl, r1.below h3, r2, by omega, by omega, by omega, l2, by omega, (h1.trans (h2.mono (by omega))).trans (h3.mono (by omega))⟩

set_option maxRecDepth 100000 in
set_option maxHeartbeats 8000000 in
theorem with_any (w0 w : World) (tb hb rb : Nat) (b : Board) (room has : List Int) (hF : b.Fine) (hT : TriedAt w0 w tb hb rb b room has) (hA : Asg b.fits room has) (hin : Inside b.fits room.length) (hr : ∀ s : Int, 0 ≤ s → s < room.length → 1 ≤ roomOf room s ∧ roomOf room s ≤ 1000)
    (f : Nat) (hf : f < b.fits.length) (slot : Int) (hs0 : 0 ≤ slot) :
    Calls Try.prog 67 #[.pointer (some ⟨tb, 0, none⟩), .int .i64 f, .int .i64 slot] w (WithPost b.fits room f slot w) := by
  obtain ⟨Af, As, At, cf, cs, ct, hB, h0, h1, h2⟩ := hT.board_now
  obtain ⟨Ar, cr, h3, h3r⟩ := hT.roomAt
  obtain ⟨ch, h4⟩ := hT.hasAt
  obtain ⟨fb, foff, rfl, hfc⟩ := hB.fits (by omega)
  obtain ⟨Aj, cj, f1, f2⟩ := hfc f hf
  have hlenL := hF.lens _ (List.getElem_mem hf)
  obtain ⟨L, hL⟩ : ∃ L, L = b.fits[f] := ⟨_, rfl⟩
  rw [← hL] at f1 f2 hlenL
  have HL : Hid (fitOf b.fits f = L) := hid ((fitOf_lt hf).trans hL.symm)
  have hn100 : b.fits.length ≤ 100 := by rw [hF.fits]; exact hF.finds
  have HB := hid hB
  have HF := hid hF
  have HT := hid hT
  have HA := hid hA
  have HIN := hid hin
  have HR := hid hr
  have HF2 := hid f2
  clear hB hF hT hA hin hr f2 hfc hL
  by_cases hmem : slot ∈ L
  case neg =>
    have HM := hid hmem
    clear hmem
    go_enter Try.func67, Try.ntmps67
    go_wp2_with fail
    refine (contains_t _ _ _ _ _ (by omega) HF2.out (decide_eq_false HM.out)).mono ?_
    rintro e w' ⟨rfl, rfl⟩
    go_wp2_with fail
    go_ret2
    exact ⟨Below.refl _ _, .inr ⟨rfl, fun a ha => not_fits ha HL.out hs0 HM.out⟩⟩
  case pos =>
    have hmem' : slot ∈ fitOf b.fits f := by rw [HL.out]; exact hmem
    have hin2 := HIN.out f _ hmem'
    obtain ⟨s, rfl⟩ : ∃ s : Nat, slot = (s : Int) := ⟨slot.toNat, by omega⟩
    have hsl : s < room.length := by omega
    have HM := hid hmem
    have HM2 := hid hmem'
    have hlH : has.length = b.fits.length := HA.out.len
    have HLH := hid hlH
    have hfl : f < has.length := by rw [hlH]; exact hf
    have hRl := HT.out.roomLen
    have hrow := HT.out.hasRow
    have hAr := h3r (by omega)
    have hroomAt : Hid (IntsAt w Ar room) := hid (by rw [hAr]; exact HT.out.roomRow.intsAt)
    have hhasAt := hid hrow.intsAt
    have HRL := hid hRl
    have hrl : room.length ≤ 300 := by rw [hRl]; exact HF.out.slots
    have h4' : w.cell? ⟨tb, 4, none⟩ = some (.slice (some ⟨hb, 0, none⟩) has.length ch) := by rw [hlH]; exact h4
    have H4 := hid h4'
    clear hmem hmem' hlH hRl hrow hAr h3r h4'
    go_enter Try.func67, Try.ntmps67
    go_wp2_with fail
    refine (contains_t _ _ _ _ _ (by omega) HF2.out (decide_eq_true HM.out)).mono ?_
    rintro e w' ⟨rfl, rfl⟩
    go_wp2_with fail
    go_cut [8] (fun s8 wx => ∃ ub uh ur, s8 = .pointer (some ⟨ub, 0, none⟩) ∧ TriedAt w wx ub uh ur b room has)
    case first =>
      go_region_held3 (fun w' => w'.cell? ⟨tb, 0, none⟩ = some (.slice Af b.finds.length cf) ∧ w'.cell? ⟨tb, 1, none⟩ = some (.slice As b.slots.length cs) ∧ w'.cell? ⟨tb, 2, none⟩ = some (.slice (some ⟨fb, foff, none⟩) b.fits.length ct) ∧ w'.cell? ⟨tb, 3, none⟩ = some (.slice Ar room.length cr) ∧ w'.cell? ⟨tb, 4, none⟩ = some (.slice (some ⟨hb, 0, none⟩) b.fits.length ch) ∧ Below w.heap.size w w')
        (first | exact ⟨h0, h1, h2, h3, h4, (Below.refl _ _).drew⟩ | exact keep5 (by assumption) hbelR | exact keep5 (by assumption) hbelH | exact keep5 (by assumption) ((Below.refl _ _).alloc (Nat.le_refl _) _))
        (first
          | (go_at_call_of 88 (Value.slice Ar room.length cr); refine (copiedInts_any Ar cr room _ (by omega) (hroomAt.out.kept (Kept.of_below (And.right (And.right (And.right (And.right (And.right (by assumption)))))))) ).mono ?_; rintro e wR ⟨v, rfl, hownR, hbelR⟩; obtain ⟨AR, cR, rfl, hAR, _⟩ := ownsRow.form hownR)
          | (go_at_call_of 88 (Value.slice (some ⟨hb, 0, none⟩) b.fits.length ch); refine (copiedInts_n (some ⟨hb, 0, none⟩) ch _ has _ HLH.out (by rw [HLH.out]; omega) (hhasAt.out.kept (Kept.of_below (And.right (And.right (And.right (And.right (And.right (by assumption)))))))) ).mono ?_; rintro e wH ⟨AH, cH, rfl, hownH, hbelH⟩))
      all_goals
        go_wp2_with fail
        go_meet
        first
          | (obtain ⟨g, h, rfl, rfl, r1, r2, b1, b2, b3, b4, b5, b6⟩ := two_rows (w := w) (wa := w.drew) rfl ((Below.refl _ _).drew) hownR hbelR hownH hbelH (by omega) (by omega)
             exact ⟨_, h, g, rfl, tried_boxed HB.out HRL.out b6 r1 r2 b1 b2 b3 b4 b5⟩)
          | (obtain ⟨g, h, rfl, rfl, r1, r2, b1, b2, b3, b4, b5, b6⟩ := two_rows (w := w) (wa := w.drew) rfl ((Below.refl _ _).drew) hownH hbelH hownR hbelR (by omega) (by omega)
             exact ⟨_, g, h, rfl, tried_boxed HB.out HRL.out b6 r2 r1 b2 b1 b4 b3 (fun e => b5 e.symm)⟩)
    case rest =>
      obtain ⟨ub, uh, ur, rfl, hU⟩ := hcut
      have HU := hid hU
      obtain ⟨cu, u4⟩ := hU.hasAt
      have u5 := (hU.hasRow f hfl).1
      have u5f := (hU.hasRow f hfl).2
      have HROf : Hid (roomOf room (s : Int) = room[s]) := hid (roomOf_lt hsl)
      have HHF : Hid (hasOf has f = has[f]) := hid (hasOf_lt hfl)
      have nu1 : ¬ ub = uh := hU.ne.1
      have nu2 : ¬ uh = ub := fun e => nu1 e.symm
      clear h0 h1 h2 h3 h4 hU
      by_cases e : has[f] = (s : Int)
      · have d1 : (has[f] == (s : Int)) = true := by simpa using e
        have HE := hid e
        clear e
        go_wp2_with fail
        go_ret2
        exact ⟨HU.out.kept, .inl ⟨_, cu, has, ret_sl HLH.out.symm, HU.out.hasRow.intsAt, HA.out, by rw [HHF.out]; exact HE.out⟩⟩
      · have d1 : (has[f] == (s : Int)) = false := by simpa using e
        have HNE : Hid (hasOf has f ≠ (s : Int)) := hid (by rw [HHF.out]; exact e)
        clear e
        have hr1 := HR.out s (by omega) (by omega)
        rw [HROf.out] at hr1
        have b1 := hr1.1
        have b2 := hr1.2
        have U1 := HU.out.setHas f (-1)
        obtain ⟨W1, hW1⟩ : ∃ W1, wc.setCell ⟨uh, f, none⟩ (.int .i64 (-1)) = W1 := ⟨_, rfl⟩
        rw [hW1] at U1
        obtain ⟨A1, c1, v3, v3r⟩ := U1.roomAt
        have hA1 := v3r (by omega)
        subst hA1
        have v5 := (U1.roomRow s hsl).1
        have v5f := (U1.roomRow s hsl).2
        have U2 := U1.setRoom s (room[s] - 1)
        obtain ⟨W2, hW2⟩ : ∃ W2, W1.setCell ⟨ur, s, none⟩ (.int .i64 (room[s] - 1)) = W2 := ⟨_, rfl⟩
        rw [hW2] at U2
        rw [← less_eq hsl] at U2
        have HU2 := hid U2
        obtain ⟨A2, c2, y3, y3r⟩ := U2.roomAt
        have hA2 := y3r (by rw [less_length]; omega)
        subst hA2
        rw [less_length] at y3
        have y5 : W2.cell? ⟨ur, s, none⟩ = some (.int .i64 (room[s] - 1)) := by
          have := (U2.roomRow s (by rw [less_length]; exact hsl)).1
          simpa [less_eq hsl] using this
        obtain ⟨c4, y4⟩ := U2.hasAt
        have hl1 : (has.set f (-1)).length = b.fits.length := by rw [List.length_set]; exact HLH.out
        have hu2 := U2.lt.1
        have hload := fun (wx : World) (hx : Below W2.heap.size W2 wx) => load_any ub c4 (some ⟨uh, 0, none⟩) (has.set f (-1)) s (by rw [hl1]; omega) wx ((Kept.of_below hx) _ _ (by rw [hl1]; exact y4)) (U2.hasRow.below hx).intsAt (fun a ha => by cases ha; exact Nat.lt_of_lt_of_le hu2 hx.size)
        have HLOAD := hid hload
        have HL1 := hid hl1
        clear U1 U2 v3r y3r hr1 hl1 hload
        go_wp2_with fail
        clear u4 u5 u5f v3 v5 v5f
        go_cut [77] (fun s77 wx => s77 = .bool (decide (room[s] - 1 < loadOf (has.set f (-1)) s)) ∧ Below W2.heap.size W2 wx)
        case first =>
          clear hW1 hW2
          go_region_held3 (fun w' => w'.cell? ⟨ub, 3, none⟩ = some (.slice (some ⟨ur, 0, none⟩) room.length c2) ∧ w'.cell? ⟨ur, s, none⟩ = some (.int .i64 (room[s] - 1)) ∧ Below W2.heap.size W2 w')
            (first | exact ⟨y3, y5, (Below.refl _ _).drew⟩ | exact keep2 (by assumption) hbel)
            (first
              | (go_at_call 74; refine (HLOAD.out _ (And.right (And.right (by assumption)))).mono ?_; rintro e w' ⟨rfl, hbel⟩))
          all_goals
            go_wp2_with fail
            go_meet
            exact ⟨by rw [hold_load], And.right (And.right (by assumption))⟩
        case rest =>
          obtain ⟨h77, hbx⟩ := hcut
          have HU3 := hid (HU2.out.below hbx)
          have HBX := hid hbx
          have hkx := Kept.of_below hbx
          have x4 := hkx _ _ y4
          have hf1 : f < (has.set f (-1)).length := by rw [List.length_set]; exact hfl
          have x5 := (HU3.out.hasRow f hf1).1
          have x5f := (HU3.out.hasRow f hf1).2
          have HFF := hid hf1
          have Y4 := hid y4
          have HLE : Hid (roomOf (less room (s : Int)) (s : Int) = room[s] - 1) := hid (by rw [roomOf_less (by omega) (by omega) (by omega), if_pos rfl, HROf.out])
          clear y3 y4 y5 hbx hkx hW1 hW2
          by_cases hgt : room[s] - 1 < loadOf (has.set f (-1)) s
          case neg =>
            rw [decide_eq_false hgt] at h77
            subst h77
            have HGT := hid hgt
            clear hgt
            go_wp2_with fail
            go_ret2
            refine ⟨((HU3.out.setHas f s).kept), .inl ⟨_, c4, (has.set f (-1)).set f s, ret_sl (by rw [List.length_set, HL1.out]), (HU3.out.setHas f s).hasRow.intsAt, fix_room HIN.out HA.out HM2.out HNE.out (by rw [HLE.out]; have := HGT.out; omega), ?_⟩⟩
            rw [hasOf_set _ HFF.out, if_pos rfl]
          case pos =>
            rw [decide_eq_true hgt] at h77
            subst h77
            clear x5 x5f
            go_wp2_with fail
            refine (at_box ub s _).mono ?_
            rintro e wa ⟨B4, B5, rfl, hba, ha1, ha2⟩
            have UA := HU3.out.below hba
            go_wp2_with fail
            refine (collect_any B4 B5 ub c4 (some ⟨uh, 0, none⟩) (has.set f (-1)) s (by rw [HL1.out]; omega) wa ha1 ha2 (by rw [HL1.out]; exact ((Kept.of_below HBX.out).trans (Kept.of_below hba)) _ _ Y4.out) UA.hasRow.intsAt (fun a ha => by cases ha; exact UA.lt.1)).mono ?_
            rintro e wb ⟨v, rfl, hown, hbb⟩
            obtain ⟨A, cap, rfl, hAi⟩ := ownsRow.ints hown
            obtain ⟨gs, hgs⟩ : ∃ gs, gs = hold (has.set f (-1)) s := ⟨_, rfl⟩
            have hlg := hold_load (has.set f (-1)) (s : Int)
            rw [← hgs] at hAi hlg ⊢
            have hgl : 0 < gs.length := by omega
            have hg0 := mem_hold.1 (show gs[0] ∈ hold (has.set f (-1)) s by rw [← hgs]; exact List.getElem_mem hgl)
            obtain ⟨ab, aoff, rfl, hac⟩ := hAi (by rw [nats_length]; exact hgl)
            have hac0 := hac 0 (by rw [nats_length]; exact hgl)
            rw [nats_get hgl, Nat.add_zero] at hac0
            have UB := UA.below hbb
            have hgb : gs[0] < b.fits.length := by rw [← HL1.out]; exact hg0.1
            have HG0 := hid hg0
            have z4 := ((Kept.of_below HBX.out).trans ((Kept.of_below hba).trans (Kept.of_below hbb))) _ _ Y4.out
            have hgl0 := hg0.1
            have z5 := (UB.hasRow gs[0] hgl0).1
            have z5f := (UB.hasRow gs[0] hgl0).2
            have U5 := UB.setHas gs[0] (-1)
            obtain ⟨W5, hW5⟩ : ∃ W5, wb.setCell ⟨uh, gs[0], none⟩ (.int .i64 (-1)) = W5 := ⟨_, rfl⟩
            rw [hW5] at U5
            have HU5 := hid U5
            clear hown hAi hac hgs hlg UA UB hba hbb ha1 ha2 hgt U5 hg0
            go_wp2_with fail
            obtain ⟨k1, k2, k3⟩ := HU5.out.trial
            obtain ⟨p1, p2, p3, p4, p5, p6⟩ := fix_part HIN.out HA.out HM2.out HNE.out HG0.out.2
            refine (give_any _ ub uh b.fits (less room s) k1 k2 (by omega) (by rw [less_length]; exact hrl) HF.out.lens gs[0] _ W5 p5 p1 p2 p4 k3 HU5.out.hasRow).mono ?_
            rintro e w6 ⟨ho, ⟨rfl, h6, hok, hr6⟩ | ⟨H, AH, cH, rfl, hAH, hno, hr6⟩⟩
            · have U6 := HU5.out.only ho hr6
              have HU6 := hid U6
              have HOK := hid hok
              have hl6 : h6.length = b.fits.length := by rw [hok.lenH, List.length_set]; exact HL1.out
              have HL6 := hid hl6
              have hf6 : f < h6.length := by rw [hl6]; exact hf
              have q5 := (U6.hasRow f hf6).1
              have q5f := (U6.hasRow f hf6).2
              have q4 : w6.cell? ⟨ub, 4, none⟩ = some (.slice (some ⟨uh, 0, none⟩) b.fits.length c4) := by
                have hq : W5.cell? ⟨ub, 4, none⟩ = some (.slice (some ⟨uh, 0, none⟩) b.fits.length c4) := by
                  rw [← hW5, World.cell?_setCell_other _ _ _ _ (by intro e; have := (Addr.mk.inj e).1; exact HU5.out.ne.1 this.symm)]
                  exact z4
                exact (ho.cell (p := ⟨ub, 4, none⟩) HU5.out.lt.2 (by simpa using HU5.out.ne.1)).trans hq
              have HF6 := hid hf6
              clear k1 k2 k3 p1 p2 p3 p4 p5 p6 ho hok hr6 U6 z4 z5 z5f hW5 hl6
              go_wp2_with fail
              go_ret2
              refine ⟨(HU6.out.setHas f s).kept, .inl ⟨_, c4, h6.set f s, ret_sl (by rw [List.length_set, HL6.out]), (HU6.out.setHas f s).hasRow.intsAt, fix_ok HIN.out HA.out HM2.out HNE.out HG0.out.2 HOK.out, ?_⟩⟩
              rw [hasOf_set _ HF6.out, if_pos rfl]
            · have U6 := hid (HU5.out.only ho hr6)
              have HNO := hid hno
              clear k1 k2 k3 p1 p2 p3 p4 p5 p6 ho hno hr6 hAH z4 z5 z5f hW5
              go_wp2_with fail
              go_ret2
              exact ⟨U6.out.kept, .inr ⟨rfl, fun a ha => fix_no HIN.out HA.out HM2.out HNE.out HG0.out.2 HNO.out ha⟩⟩
end Go.Proofs.Ytpmdjbjnihhjeaa
