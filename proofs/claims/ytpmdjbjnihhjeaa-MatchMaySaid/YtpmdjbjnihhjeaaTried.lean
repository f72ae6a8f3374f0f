/- A trial of a board, made; a trial in which there is an assignment. -/
import Derived.Test.YtpmdjbjnihhjeaaFill
import Derived.Deep.AppendLies
namespace Go.Proofs.Ytpmdjbjnihhjeaa
open Go.RowKit

/-- A trial that a call has made of a board that lay in w0. -/
structure TriedAt (w0 w : World) (tb hb rb : Nat) (b : Board) (room has : List Int) : Prop where
  boardAt : ∃ Af As At cf cs ct, BoardAt w0 Af As At b ∧ w.cell? ⟨tb, 0, none⟩ = some (.slice Af b.finds.length cf) ∧ w.cell? ⟨tb, 1, none⟩ = some (.slice As b.slots.length cs) ∧ w.cell? ⟨tb, 2, none⟩ = some (.slice At b.fits.length ct)
  roomAt : ∃ A c, w.cell? ⟨tb, 3, none⟩ = some (.slice A room.length c) ∧ (0 < room.length → A = some ⟨rb, 0, none⟩)
  roomRow : RowAt (Value.int .i64) w rb room
  roomLen : room.length = b.slots.length
  hasAt : ∃ c, w.cell? ⟨tb, 4, none⟩ = some (.slice (some ⟨hb, 0, none⟩) b.fits.length c)
  hasRow : RowAt (Value.int .i64) w hb has
  lo : w0.heap.size ≤ tb ∧ w0.heap.size ≤ hb ∧ w0.heap.size ≤ rb
  ne : tb ≠ hb ∧ hb ≠ rb ∧ tb ≠ rb
  lt : hb < w.heap.size ∧ tb < w.heap.size
  kept : Below w0.heap.size w0 w
  free : ∀ o, w.frozen? ⟨tb, o, none⟩ = false

section
variable {w0 w w' : World} {tb hb rb : Nat} {b : Board} {room has has' : List Int}
theorem TriedAt.keptBare (h : TriedAt w0 w tb hb rb b room has) : Kept w0 (bare w hb) := fun p v hp => by
  have := cell_lt hp
  have := h.lo
  rw [bare_cell (by omega)]
  exact (Kept.of_below h.kept) p v hp
theorem TriedAt.trial (h : TriedAt w0 w tb hb rb b room has) : TrialAt (bare w hb) tb hb b.fits room ∧ Void (bare w hb) [hb] ∧ Kept (bare w hb) w := by
  obtain ⟨Af, As, At, cf, cs, ct, hB, h0, h1, h2⟩ := h.boardAt
  obtain ⟨Ar, cr, h3, h4⟩ := h.roomAt
  obtain ⟨ch, h5⟩ := h.hasAt
  have q : ∀ o, (bare w hb).cell? ⟨tb, o, none⟩ = w.cell? ⟨tb, o, none⟩ := fun o => bare_cell (p := ⟨tb, o, none⟩) h.ne.1
  refine ⟨⟨⟨Af, _, cf, (q 0).trans h0⟩, ⟨As, cs, (q 1).trans (by rw [h.roomLen]; exact h1)⟩, ⟨At, ct, (q 2).trans h2, hB.fits.kept h.keptBare⟩, ⟨Ar, cr, (q 3).trans h3, fun hp => ?_⟩, ⟨ch, (q 4).trans h5⟩⟩, bare_void void_nil, bare_kept⟩
  exact ⟨rb, 0, h4 hp, fun j hj => by rw [Nat.zero_add, bare_cell (p := ⟨rb, j, none⟩) h.ne.2.1.symm]; exact (h.roomRow j hj).1⟩
theorem TriedAt.only (h : TriedAt w0 w tb hb rb b room has) (ho : Only [hb] w w') (hr : RowAt (Value.int .i64) w' hb has') : TriedAt w0 w' tb hb rb b room has' := by
  have q : ∀ o, w'.cell? ⟨tb, o, none⟩ = w.cell? ⟨tb, o, none⟩ := fun o => ho.cell (p := ⟨tb, o, none⟩) h.lt.2 (by simpa using h.ne.1)
  obtain ⟨Af, As, At, cf, cs, ct, hB, h0, h1, h2⟩ := h.boardAt
  obtain ⟨Ar, cr, h3, h4⟩ := h.roomAt
  obtain ⟨ch, h5⟩ := h.hasAt
  refine ⟨⟨Af, As, At, cf, cs, ct, hB, (q 0).trans h0, (q 1).trans h1, (q 2).trans h2⟩, ⟨Ar, cr, (q 3).trans h3, h4⟩, h.roomRow.only ho (by simpa using h.ne.2.1.symm), h.roomLen, ⟨ch, (q 4).trans h5⟩, hr, h.lo, h.ne, ⟨Nat.lt_of_lt_of_le h.lt.1 ho.size, Nat.lt_of_lt_of_le h.lt.2 ho.size⟩, ?_, fun o => (ho.frozen (p := ⟨tb, o, none⟩) h.lt.2 (by simpa using h.ne.1)).trans (h.free o)⟩
  exact h.kept.trans (ho.below (fun x hx => by rw [List.mem_singleton] at hx; subst hx; exact h.lo.2.1) h.kept.size)
theorem TriedAt.below (h : TriedAt w0 w tb hb rb b room has) (ho : Below w.heap.size w w') : TriedAt w0 w' tb hb rb b room has := h.only (Only.of_below ho) (h.hasRow.below ho)
theorem TriedAt.setHas (h : TriedAt w0 w tb hb rb b room has) (i : Nat) (v : Int) : TriedAt w0 (w.setCell ⟨hb, i, none⟩ (.int .i64 v)) tb hb rb b room (has.set i v) :=
  h.only ((Only.refl _ _).setCell (by simp) _) (h.hasRow.set i v)
theorem TriedAt.setRoom (h : TriedAt w0 w tb hb rb b room has) (i : Nat) (v : Int) : TriedAt w0 (w.setCell ⟨rb, i, none⟩ (.int .i64 v)) tb hb rb b (room.set i v) has := by
  have ho : Only [rb] w (w.setCell ⟨rb, i, none⟩ (.int .i64 v)) := (Only.refl _ _).setCell (by simp) _
  have q : ∀ o, (w.setCell ⟨rb, i, none⟩ (.int .i64 v)).cell? ⟨tb, o, none⟩ = w.cell? ⟨tb, o, none⟩ := fun o => ho.cell (p := ⟨tb, o, none⟩) h.lt.2 (by simpa using h.ne.2.2)
  obtain ⟨Af, As, At, cf, cs, ct, hB, h0, h1, h2⟩ := h.boardAt
  obtain ⟨Ar, cr, h3, h4⟩ := h.roomAt
  obtain ⟨ch, h5⟩ := h.hasAt
  refine ⟨⟨Af, As, At, cf, cs, ct, hB, (q 0).trans h0, (q 1).trans h1, (q 2).trans h2⟩, ⟨Ar, cr, by rw [List.length_set]; exact (q 3).trans h3, by rw [List.length_set]; exact h4⟩, h.roomRow.set i v, by rw [List.length_set]; exact h.roomLen, ⟨ch, (q 4).trans h5⟩, h.hasRow.setOther (p := ⟨rb, i, none⟩) h.ne.2.1.symm _, h.lo, h.ne, ⟨Nat.lt_of_lt_of_le h.lt.1 ho.size, Nat.lt_of_lt_of_le h.lt.2 ho.size⟩, ?_, fun o => (ho.frozen (p := ⟨tb, o, none⟩) h.lt.2 (by simpa using h.ne.2.2)).trans (h.free o)⟩
  exact h.kept.trans (ho.below (fun x hx => by rw [List.mem_singleton] at hx; subst hx; exact h.lo.2.2) h.kept.size)
end

theorem Only.thenB {X : List Nat} {a w w' : World} (h : Only X a w) (k : Below a.heap.size w w') : Only X a w' :=
  ⟨k.os.trans h.os, k.tape.trans h.tape, k.output.trans h.output, Nat.le_trans h.size k.size, fun i hi hx => (k.block i hi).trans (h.block i hi hx)⟩

def pieces (ss : List Slot) : List Int := ss.map Slot.pieces

theorem pieces_length (ss : List Slot) : (pieces ss).length = ss.length := by simp [pieces]
theorem pieces_take {ss : List Slot} {k : Nat} (h : k < ss.length) : ints ((pieces ss).take k) ++ [.int .i64 ss[k].pieces] = ints ((pieces ss).take (k + 1)) := by
  rw [List.take_succ_eq_append_getElem (by rw [pieces_length]; exact h), ints_append]
  simp [pieces, ints]
theorem block_set {w : World} {g i : Nat} {cs : Array Value} {t : TypeId} {v : Value} (h : w.heap[g]? = some (.cells cs t (0, 0))) : (w.setCell ⟨g, i, none⟩ v).heap[g]? = some (.cells (cs.setIfInBounds i v) t (0, 0)) := by
  simp only [World.setCell, Array.getElem?_modify, if_true, h]
  rfl
theorem own_room {w : World} {base : Nat} {v : Value} {R : List Int} (h : w.ownsRow base 3 1 v R.length (ints R)) : ∃ A c rb, v = .slice A R.length c ∧ (0 < R.length → A = some ⟨rb, 0, none⟩) ∧ RowAt (Value.int .i64) w rb R ∧ base ≤ rb := by
  rcases Nat.eq_zero_or_pos R.length with h0 | h0
  · obtain ⟨A, c, hv, _⟩ := ownsRow.ints h
    exact ⟨A, c, base, hv, fun h1 => by omega, fun j hj => by omega, Nat.le_refl _⟩
  · obtain ⟨g, c, hv, h1, _⟩ := own_slice h h0
    subst hv
    exact ⟨_, c, g, rfl, fun _ => rfl, RowAt.of_own h, h1⟩

set_option maxRecDepth 100000 in
set_option maxHeartbeats 4000000 in
theorem tried_any (b : Board) (Af As At : Option Addr) (cf cs ct : Nat) (w : World) (hn : b.finds.length ≤ 100) (hm : b.slots.length ≤ 300) (hfl : b.fits.length = b.finds.length) (hB : BoardAt w Af As At b) :
    Calls Try.prog 60 #[.agg #[.slice Af b.finds.length cf, .slice As b.slots.length cs, .slice At b.fits.length ct]] w fun e w' => ∃ tb hb rb, e = .returned (.pointer (some ⟨tb, 0, none⟩)) ∧ TriedAt w w' tb hb rb b (pieces b.slots) (List.replicate b.fits.length (-1)) := by
  have HB := hid hB
  have HFL := hid hfl
  clear hB hfl
  obtain ⟨W, hW, c0, c1, c2, hbW, hz⟩ := box3 w (.slice Af b.finds.length cf) (.slice As b.slots.length cs) (.slice At b.fits.length ct) 26
  have hcx : ((W.alloc (.cells #[.int .i64 (-1)] 3)).drew).cell? ⟨w.heap.size + 1, 0, none⟩ = some (.int .i64 (-1)) := by rw [← hz]; simp
  have HCX := hid hcx
  have HZ := hid hz
  clear hcx hz
  go_enter Try.func60, Try.ntmps60
  go_wp2_with fail
  go_cut [3] (fun s3 wx => ∃ tb hb ch, s3 = .pointer (some ⟨tb, 0, none⟩) ∧ wx.heap[tb]? = some (.cells #[.slice Af b.finds.length cf, .slice As b.slots.length cs, .slice At b.fits.length ct, .slice none 0 0, .slice (some ⟨hb, 0, none⟩) b.finds.length ch] 80 (0, 0)) ∧ RowAt (Value.int .i64) wx hb (List.replicate b.finds.length (-1)) ∧ Below W.heap.size W wx ∧ W.heap.size ≤ hb ∧ hb < tb)
  case first =>
    go_region_held3 (fun w' => w'.cell? ⟨w.heap.size, 0, none⟩ = some (.slice Af b.finds.length cf) ∧ w'.cell? ⟨w.heap.size, 1, none⟩ = some (.slice As b.slots.length cs) ∧ w'.cell? ⟨w.heap.size, 2, none⟩ = some (.slice At b.fits.length ct) ∧ Below W.heap.size W w') (first | exact ⟨c0, c1, c2, (Below.refl _ _).drew⟩ | exact keep3 (wa := W) ⟨c0, c1, c2, Below.refl _ _⟩ (((Below.refl _ _).alloc (Nat.le_refl _) _).drew) | exact keep3 (by assumption) hbel | exact keep3 (by assumption) ((Below.refl _ _).alloc (Nat.le_refl _) _))
            (first
              | (go_at_call 54; refine (repeat_any _ _ _ (-1) b.finds.length _ (by omega) (by first | exact HCX.out | exact (by rw [HZ.out]; exact HCX.out))).mono ?_; rintro e w' ⟨rfl, hown, hbel⟩))
    all_goals
      go_wp2_with fail
      go_meet
      have hr := RowAt.of_block (own_block hown).1
      have hlt : W.heap.size + 1 < w'.heap.size := by
        have := (Array.getElem?_eq_some_iff.1 (own_block hown).1).1
        simpa using this
      simp at hr
      refine ⟨w'.heap.size, W.heap.size + 1, b.finds.length, rfl, heap_alloc_new _ _, ?_, ?_, by omega, by omega⟩
      · exact hr.below ((Below.refl _ _).alloc (Nat.le_refl _) _)
      · exact (((((Below.refl W.heap.size W).alloc (Nat.le_refl _) _).drew).trans (hbel.mono (by simp))).alloc (Nat.le_trans (by simp) hbel.size) _)
  case rest =>
    obtain ⟨tb, hb, ch, rfl, hblk, hrow, hbx, h1, h2⟩ := hcut
    have htb : tb < wc.heap.size := (Array.getElem?_eq_some_iff.1 hblk).1
    have hwW := HZ.out
    have hbc : Below w.heap.size w wc := hbW.trans (hbx.mono (by omega))
    have x1 := (hbx.cell (p := ⟨w.heap.size, 1, none⟩) (show w.heap.size < W.heap.size by omega)).trans c1
    have HBLK := hid hblk
    have HROW := hid hrow
    have HBC := hid hbc
    have L1 : Hid (w.heap.size < hb) := hid (by omega)
    obtain ⟨i, i1, i2, i3, i4⟩ := ints_info
    clear hW c0 c1 c2 hbW HCX hblk hrow hbx hbc hwW
    go_wp2_with fail
    clear x1
    go_loopg [17] (b.slots.length) (fun g i wr => ∃ (k : Nat) (v : Value), k ≤ b.slots.length ∧ g = b.slots.length - k ∧ i = .int .i64 k ∧ Hid (wr.heap[tb]? = some (.cells #[.slice Af b.finds.length cf, .slice As b.slots.length cs, .slice At b.fits.length ct, v, .slice (some ⟨hb, 0, none⟩) b.finds.length ch] 80 (0, 0))) ∧ Hid (wr.ownsRow wc.heap.size 3 1 v k (ints ((pieces b.slots).take k))) ∧ Hid (Only [tb] wc wr))
    case atStart => exact ⟨0, _, by omega, by omega, rfl, HBLK, hid (World.ownsRow_nil _ _ _ _), hid (Only.refl _ _)⟩
    case round =>
      obtain ⟨k, v, hk, hgk, rfl, hblk, hown, ho⟩ := hrel
      by_cases hlt : k < b.slots.length
      · have hbr : Below w.heap.size w wr := HBC.out.trans (ho.out.below (fun x hx => by rw [List.mem_singleton] at hx; have := L1.out; omega) HBC.out.size)
        obtain ⟨sb, soff, rfl, hc⟩ := (HB.out.slots.kept (Kept.of_below hbr)) (by omega)
        obtain ⟨f0, f1, f2⟩ := hc k hlt
        have y3 : wr.cell? ⟨tb, 3, none⟩ = some v := by simp [World.cell?, hblk.out]
        have y3f : wr.frozen? ⟨tb, 3, none⟩ = false := by simp [World.frozen?, hblk.out]
        have htr : tb < wr.heap.size := Nat.lt_of_lt_of_le htb ho.out.size
        clear hc hbr
        obtain ⟨W2, hW2, z0, z1, z2, hbW2, hz2⟩ := box3 wr (.int .i64 b.slots[k].loss) (.int .i64 b.slots[k].pack) (.int .i64 b.slots[k].pieces) 50
        have y3' := (Kept.of_below hbW2) _ _ y3
        have y3f' := (hbW2.frozen (p := ⟨tb, 3, none⟩) htr).trans y3f
        have hown2 := hid (own_below hown.out hbW2)
        have HB2 : Hid ((W2.drew.alloc (.cells #[.int .i64 b.slots[k].pieces] 3)).heap[tb]? = some (.cells #[.slice Af b.finds.length cf, .slice (some ⟨sb, soff, none⟩) b.slots.length cs, .slice At b.fits.length ct, v, .slice (some ⟨hb, 0, none⟩) b.finds.length ch] 80 (0, 0))) := hid ((Below.heap_alloc _ _ _ (Nat.lt_of_lt_of_le htr hbW2.size)).trans ((hbW2.block tb htr).trans hblk.out))
        have htr2 : tb < W2.heap.size := Nat.lt_of_lt_of_le htr hbW2.size
        have HZ2 := hid hz2
        have HBW2 := hid hbW2
        clear hz2 hbW2
        have lwc : wc.heap.size ≤ W2.heap.size := by have := ho.out.size; have := HZ2.out; omega
        go_wp2_with fail
        clear hW2
        go_region_law (refine step_append_lies _ rfl (.tmp 25) (.tmp 28) 22 rfl wc.heap.size 3 i (.int .i64 0) 1 8 intsl_u i1 i2 i3 i4 rfl (by decide) v k (ints ((pieces b.slots).take k)) ?hs (hown2.out.alloc _) ⟨W2.heap.size, 0, none⟩ 1 1 [.int .i64 b.slots[k].pieces] ?hx rfl (cell_one_new _ _ _) (by simp [Value.oneCell']) (by decide) ?h63 ?hbytes ?hbase _ rfl ?_
                       case hs => simp [Act.eval]
                       case hx => simp [Act.eval]
                       case h63 => unfold maxLen; omega
                       case hbytes => omega
                       case hbase => simp; omega
                       intro g cap w1 hown1 hgrow1 hat hlt1
                       have hb1 := hid ((hgrow1.block tb (by simp; omega) (fun e => by have := (hown2.out.lt tb e.symm).1; omega)).trans HB2.out)
                       have s1 : w1.cell? ⟨tb, 3, none⟩ = some v := by simp [World.cell?, hb1.out]
                       have s2 : w1.frozen? ⟨tb, 3, none⟩ = false := by simp [World.frozen?, hb1.out])
        all_goals
          go_wp2_with fail
          go_roundg (b.slots.length - (k + 1))
          case measure => omega
          case rel =>
            refine ⟨k + 1, _, by omega, rfl, by go_num, hid (block_set hb1.out), hid (by rw [← pieces_take hlt]; exact ownsRow_setCell_below hown1 (a := ⟨tb, 3, none⟩) htb _), hid ?_⟩
            refine Only.setCell ?_ (by simp) _
            refine Only.thenB (((ho.out.then HBW2.out).dn 1).alloc _) (Below.of_grown hgrow1 (Nat.le_trans lwc (by simp)) (fun x e => (hown2.out.lt x e).1))
      · go_wp2_with fail
        go_ret
        obtain rfl : k = b.slots.length := by omega
        have hown' := hown.out
        rw [List.take_of_length_le (by rw [pieces_length]; exact Nat.le_refl _)] at hown'
        rw [← pieces_length] at hown'
        obtain ⟨A, c, rb, rfl, hA, hrow, hrb⟩ := own_room hown'
        have hob : Below w.heap.size wc wr := ho.out.below (fun x hx => by rw [List.mem_singleton] at hx; have := L1.out; omega) HBC.out.size
        have hwc := HBC.out.size
        have hcell : ∀ o u, (#[.slice Af b.finds.length cf, .slice As b.slots.length cs, .slice At b.fits.length ct, .slice A (pieces b.slots).length c, .slice (some ⟨hb, 0, none⟩) b.finds.length ch] : Array Value)[o]? = some u → wr.cell? ⟨tb, o, none⟩ = some u := fun o u h => by
          simp only [World.cell?, hblk.out]
          exact h
        refine ⟨tb, hb, rb, rfl, ⟨⟨Af, As, At, cf, cs, ct, HB.out, hcell 0 _ rfl, hcell 1 _ rfl, hcell 2 _ rfl⟩, ⟨A, c, hcell 3 _ rfl, hA⟩, hrow, pieces_length _, ⟨ch, by rw [HFL.out]; exact hcell 4 _ rfl⟩, ?_, ?_, ?_, ?_, HBC.out.trans hob, fun o => by simp [World.frozen?, hblk.out]⟩⟩
        · rw [HFL.out]
          exact HROW.out.only ho.out (by simp; omega)
        · have := L1.out; omega
        · omega
        · have := ho.out.size; omega
end Go.Proofs.Ytpmdjbjnihhjeaa
