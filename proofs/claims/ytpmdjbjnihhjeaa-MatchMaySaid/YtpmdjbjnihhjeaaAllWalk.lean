/- The reference's Load, Chances; all, where it ends, and where a find fits no slot. -/
import Derived.Test.YtpmdjbjnihhjeaaAllPlain
import Derived.Test.YtpmdjbjnihhjeaaNobody
import Derived.Deep.RegionHeld3
import Derived.Deep.RegionLaw
set_option linter.unusedSimpArgs false
namespace Go.Proofs.Ytpmdjbjnihhjeaa
open Go.RowKit

/-- The rows of find 0, 1 ..: those ahead of k are whole, row k has the slots below s. -/
def rowsTo (ls : List (List Int)) (nf ns k s : Nat) : List (List Int) := (List.range nf).map fun i => if i < k then givenTo ls i ns else if i = k then givenTo ls i s else []
theorem rowsTo_length (ls : List (List Int)) (nf ns k s : Nat) : (rowsTo ls nf ns k s).length = nf := by simp [rowsTo]
theorem givenTo_zero (ls : List (List Int)) (i : Nat) : givenTo ls i 0 = [] := by simp [givenTo, nats]
theorem rowsTo_at {ls : List (List Int)} {nf ns k s j : Nat} (h : j < (rowsTo ls nf ns k s).length) : (rowsTo ls nf ns k s)[j] = if j < k then givenTo ls j ns else if j = k then givenTo ls j s else [] := by simp [rowsTo]
theorem rowsTo_end (ls : List (List Int)) (nf ns k : Nat) : rowsTo ls nf ns k ns = rowsTo ls nf ns (k + 1) 0 := by
  unfold rowsTo
  refine List.map_congr_left fun i _ => ?_
  by_cases h1 : i < k
  · rw [if_pos h1, if_pos (by omega)]
  · rw [if_neg h1]
    by_cases h2 : i = k
    · rw [if_pos h2, if_pos (by omega)]
    · rw [if_neg h2, if_neg (by omega)]
      by_cases h3 : i = k + 1
      · rw [if_pos h3, givenTo_zero]
      · rw [if_neg h3]
/-- The slices us, in block g, hold rows: those ahead of k lie below block B, that of k from B on, those behind it are nil. -/
structure Grid (w : World) (g B : Nat) (us : List Value) (rs : List (List Int)) (k : Nat) : Prop where
  block : Block w g 22 us
  low : g < B
  size : B ≤ w.heap.size
  len : us.length = rs.length
  done : ∀ j (h : j < rs.length), j < k → ∃ A c, us[j]? = some (.slice A rs[j].length c) ∧ IntsAt w A rs[j] ∧ ∀ a, A = some a → a.block ≠ g ∧ a.block < B
  own : ∀ h : k < rs.length, ∃ v, us[k]? = some v ∧ w.ownsRow B 3 1 v rs[k].length (ints rs[k])
  rest : ∀ j (h : j < rs.length), k < j → us[j]? = some (.slice none 0 0) ∧ rs[j] = []
theorem IntsAt.part {w w' : World} {A : Option Addr} {xs : List Int} (h : IntsAt w A xs) (hk : ∀ a, A = some a → ∀ o v, w.cell? ⟨a.block, o, none⟩ = some v → w'.cell? ⟨a.block, o, none⟩ = some v) : IntsAt w' A xs := fun h0 => by
  obtain ⟨b, off, rfl, hc⟩ := h h0
  exact ⟨b, off, rfl, fun j hj => hk _ rfl _ _ (hc j hj)⟩
theorem Grid.below {w w' : World} {g B k : Nat} {us : List Value} {rs : List (List Int)} (h : Grid w g B us rs k) (hb : Below w.heap.size w w') : Grid w' g B us rs k := by
  have hg : g < w.heap.size := Nat.lt_of_lt_of_le h.low h.size
  refine ⟨(hb.block g hg).trans h.block, h.low, Nat.le_trans h.size hb.size, h.len, fun j hj hk => ?_, fun hk => ?_, h.rest⟩
  · obtain ⟨A, c, h1, h2, h3⟩ := h.done j hj hk
    exact ⟨A, c, h1, h2.kept (Kept.of_below hb), h3⟩
  · obtain ⟨v, h1, h2⟩ := h.own hk
    exact ⟨v, h1, own_below h2 hb⟩
/-- The row of k is done: the next one begins. -/
theorem Grid.next {w : World} {g B k : Nat} {us : List Value} {rs : List (List Int)} (h : Grid w g B us rs k) : Grid w g w.heap.size us rs (k + 1) := by
  refine ⟨h.block, Nat.lt_of_lt_of_le h.low h.size, Nat.le_refl _, h.len, fun j hj hk => ?_, fun hk => ?_, fun j hj hk => h.rest j hj (by omega)⟩
  · rcases Nat.lt_or_ge j k with hlt | hge
    · obtain ⟨A, c, h1, h2, h3⟩ := h.done j hj hlt
      exact ⟨A, c, h1, h2, fun a ha => ⟨(h3 a ha).1, Nat.lt_of_lt_of_le (h3 a ha).2 h.size⟩⟩
    · obtain rfl : j = k := by omega
      obtain ⟨v, h1, h2⟩ := h.own hj
      have hlt := h2.lt
      obtain ⟨A, c, rfl, hA⟩ := ownsRow.ints h2
      obtain ⟨A', c', e, _, _, h5⟩ := ownsRow.form h2
      cases e
      refine ⟨A, c, h1, hA, fun a ha => ?_⟩
      have h6 := h5 a ha
      have h7 := hlt a.block (by rw [ha, h6.2.1]; rfl)
      have := h.low
      exact ⟨by omega, h7.2⟩
  · obtain ⟨h1, h2⟩ := h.rest (k + 1) hk (by omega)
    exact ⟨_, h1, by rw [h2]; exact World.ownsRow_nil _ _ _ _⟩
/-- One more number in row k. -/
theorem Grid.put {w w1 : World} {g B k : Nat} {us : List Value} {rs rs' : List (List Int)} {v v' : Value} (h : Grid w g B us rs k) (hk : k < rs.length) (hgr : w.grownBy w1 v.ownBlock) (hlt : ∀ x, v.ownBlock = some x → B ≤ x)
    (hl : rs'.length = rs.length) (hrest : ∀ j (hj : j < rs.length), j ≠ k → rs'[j] = rs[j]) (ho : w1.ownsRow B 3 1 v' (rs'[k]'(by omega)).length (ints (rs'[k]'(by omega)))) : Grid (w1.setCell ⟨g, k, none⟩ v') g B (us.set k v') rs' k := by
  have hg : g < w.heap.size := Nat.lt_of_lt_of_le h.low h.size
  have hgb : w1.heap[g]? = w.heap[g]? := hgr.block g hg (fun e => by have := hlt g e.symm; have := h.low; omega)
  have hb1 : Block w1 g 22 us := hgb.trans h.block
  have hku : k < us.length := by rw [h.len]; exact hk
  refine ⟨?_, h.low, ?_, by rw [List.length_set, h.len, hl], fun j hj hjk => ?_, fun _ => ⟨v', by rw [List.getElem?_set_self hku], ?_⟩, fun j hj hjk => ?_⟩
  · unfold Block
    rw [block_set hb1]
    simp
  · have : (w1.setCell ⟨g, k, none⟩ v').heap.size = w1.heap.size := by simp
    rw [this]; exact Nat.le_trans h.size hgr.size
  · obtain ⟨A, c, h1, h2, h3⟩ := h.done j (by omega) hjk
    have e := hrest j (by omega) (by omega)
    rw [List.getElem?_set_ne (by omega), e]
    refine ⟨A, c, h1, h2.part fun a ha o u hu => ?_, h3⟩
    have h4 := h3 a ha
    have h5 : w1.cell? ⟨a.block, o, none⟩ = w.cell? ⟨a.block, o, none⟩ := World.cell?_of_block (a := ⟨a.block, o, none⟩) (hgr.block a.block (Nat.lt_of_lt_of_le h4.2 h.size) (fun e => by have := hlt _ e.symm; omega))
    rw [World.cell?_of_block (a := ⟨a.block, o, none⟩) (Below.heap_setCell w1 ⟨g, k, none⟩ v' a.block h4.1), h5]
    exact hu
  · rcases ho.2 with ⟨h1, h2⟩ | ⟨x, cap, cur, h1, h2, h3, h4⟩
    · exact ⟨ho.1, .inl ⟨h1, h2⟩⟩
    · have hne : x ≠ g := fun e => by have := h.low; omega
      exact ⟨ho.1, .inr ⟨x, cap, cur, h1, h2, (Below.heap_setCell w1 ⟨g, k, none⟩ v' x hne).trans h3, h4⟩⟩
  · have h1 := h.rest j (by omega) hjk
    rw [List.getElem?_set_ne (by omega), hrest j (by omega) (by omega)]
    exact h1
theorem rowsTo_zero (ls : List (List Int)) (nf ns : Nat) : rowsTo ls nf ns 0 0 = List.replicate nf [] := by
  unfold rowsTo
  apply List.ext_getElem
  · simp
  · intro j h1 h2
    simp [givenTo_zero]
theorem rowsTo_last (ls : List (List Int)) (nf ns : Nat) : rowsTo ls nf ns nf 0 = (List.range nf).map fun i => givenTo ls i ns := by
  unfold rowsTo
  refine List.map_congr_left fun i hi => ?_
  rw [if_pos (by simpa using hi)]
theorem Grid.start {w : World} {g n : Nat} (h : Block w g 22 (List.replicate n (.slice none 0 0))) (hg : g < w.heap.size) (ls : List (List Int)) (ns : Nat) : Grid w g w.heap.size (List.replicate n (.slice none 0 0)) (rowsTo ls n ns 0 0) 0 := by
  rw [rowsTo_zero]
  refine ⟨h, hg, Nat.le_refl _, by simp, fun j _ hj => by omega, fun hk => ⟨.slice none 0 0, by simp at hk; simp [hk], ?_⟩, fun j hj _ => by simp at hj; simp [hj]⟩
  simp
  exact World.ownsRow_nil _ _ _ _
theorem Grid.fits {w : World} {g B n : Nat} {us : List Value} {rs : List (List Int)} (h : Grid w g B us rs n) (hn : rs.length = n) : FitsAt w (some ⟨g, 0, none⟩) rs := fun _ => by
  refine ⟨g, 0, rfl, fun j hj => ?_⟩
  obtain ⟨A, c, h1, h2, _⟩ := h.done j hj (by omega)
  refine ⟨A, c, ?_, h2⟩
  rw [Nat.zero_add, h.block.cell]
  exact h1

/-- What the reference's Chances comes to. -/
def GivenPost (ls : List (List Int)) (nf ns : Nat) (w : World) (e : Ending) (w' : World) : Prop :=
  Below w.heap.size w w' ∧ ∃ A c, e = .returned (.slice A nf c) ∧ FitsAt w' A ((List.range nf).map fun i => givenTo ls i ns)

set_option maxRecDepth 100000 in
set_option maxHeartbeats 8000000 in
theorem refChances_any (nf ns nt : Nat) (ls : List (List Int)) (Af As At A : Option Addr) (cf cs ct c : Nat) (w : World) (hn : ls.length ≤ 100000) (hnf : nf ≤ 100) (hns : ns ≤ 300) (hl : ∀ l ∈ ls, l.length = nf) (hA : FitsAt w A ls) :
    Calls Try.prog 21 #[.agg #[.slice Af nf cf, .slice As ns cs, .slice At nt ct], .slice A ls.length c] w (GivenPost ls nf ns w) := by
  obtain ⟨W, hW, c0, c1, c2, hbW, hz⟩ := box3 w (.slice Af nf cf) (.slice As ns cs) (.slice At nt ct) 26
  have HA := hid (hA.kept (Kept.of_below hbW))
  have HL := hid hl
  have HBW := hid hbW
  obtain ⟨i, i1, i2, i3, i4⟩ := fitsl_info
  have IB : Hid (i.bytes = 24) := hid i4
  have C0 := hid c0
  have C1 := hid c1
  clear hA hl hbW hz i4
  go_enter Try.func21, Try.ntmps21
  go_wp2_with (at_make; refine wpList_make_full _ rfl _ _ 24 rfl W.heap.size 22 i (.slice none 0 0) 1 fitsl_u i1 i2 i3 .i64 .i64 _ _ nf rfl rfl rfl rfl ?_ ?_ (Nat.le_refl _) ?_)
  · rw [IB.out]; omega
  · unfold maxLen; omega
  rintro w1 hown hgrow
  rw [made1] at hown
  have hblk := (own_block hown).1
  have hlt1 : W.heap.size < w1.heap.size := (hown.lt W.heap.size rfl).2
  have hb1 : Below W.heap.size W w1 := Below.of_grown hgrow (Nat.le_refl _) (fun k e => by cases e)
  have HG0 := hid (Grid.start hblk hlt1 ls ns)
  have hlW : w.heap.size < W.heap.size := cell_lt c0
  have HLT := hid hlt1
  have HLW := hid hlW
  have k0 := (Kept.of_below hb1) _ _ c0
  have k1 := (Kept.of_below hb1) _ _ c1
  have K0 := hid k0
  have K1 := hid k1
  have HB1 := hid hb1
  clear hown hgrow hblk hb1 hW c0 c1 c2 k0 k1 hlt1 hlW
  go_wp2_with fail
  go_loopg [6] (nf) (fun g x wr => ∃ (k B : Nat) (us : List Value), k ≤ nf ∧ g = nf - k ∧ x = .int .i64 k ∧ Hid (Grid wr W.heap.size B us (rowsTo ls nf ns k 0) k) ∧ Hid (Below W.heap.size W wr))
  case atStart => exact ⟨0, _, _, by omega, by omega, rfl, HG0, HB1⟩
  case round =>
    obtain ⟨k, B, us, hk, hgk, rfl, hgr, hbw⟩ := hrel
    have x0 := (Kept.of_below hbw.out) _ _ C0.out
    by_cases hlt : k < nf
    · go_wp2_with fail
      go_loopg [7] (ns) (fun g x ws => ∃ (s B : Nat) (us : List Value), s ≤ ns ∧ g = ns - s ∧ x = .int .i64 s ∧ Hid (Grid ws W.heap.size B us (rowsTo ls nf ns k s) k) ∧ Hid (Below W.heap.size W ws))
      case atStart => exact ⟨0, B, us, by omega, by omega, rfl, hgr, hbw⟩
      case round =>
        obtain ⟨s, B2, us2, hs, hgs, rfl, hgr2, hbw2⟩ := hrel
        have y0 := (Kept.of_below hbw2.out) _ _ C0.out
        have y1 := (Kept.of_below hbw2.out) _ _ C1.out
        have HA2 := hid (HA.out.kept (Kept.of_below hbw2.out))
        clear x0
        by_cases hls : s < ns
        · go_wp2_with fail
          go_loopg [8, 9] (ls.length) (fun g t x wt => wt = wr ∧ ∃ (j : Nat) (acc : Bool), j ≤ ls.length ∧ g = ls.length - j ∧ x = .int .i64 j ∧ t = .bool acc ∧ Hid (acc = (ls.take j).any fun a => hasOf a k == (s : Int)))
          case atStart => exact ⟨rfl, 0, false, by omega, by omega, rfl, rfl, hid (by simp)⟩
          case round =>
            obtain ⟨rfl, j, acc, hj, hgj, rfl, rfl, hacc⟩ := hrel
            by_cases hlj : j < ls.length
            · obtain ⟨b, off, rfl, hc⟩ := HA2.out (by omega)
              obtain ⟨Aj, cj, f1, f2⟩ := hc j hlj
              have hlen := HL.out _ (List.getElem_mem hlj)
              have hstep : ((ls.take (j + 1)).any fun a => hasOf a k == (s : Int)) = (((ls.take j).any fun a => hasOf a k == (s : Int)) || hasOf ls[j] k == (s : Int)) := by
                rw [List.take_succ_eq_append_getElem hlj, List.any_append, List.any_cons, List.any_nil, Bool.or_false]
              rw [← hacc.out] at hstep
              obtain ⟨L, hL⟩ : ∃ L, L = ls[j] := ⟨_, rfl⟩
              rw [← hL] at f1 f2 hlen hstep
              have hkL : k < L.length := by omega
              have hkn : (k : Int) < L.length := by omega
              have hk0 : (0 : Int) ≤ k := by omega
              obtain ⟨lb, loff, rfl, hlc⟩ := f2 (by omega)
              have hlk := hlc k hkL
              rw [hasOf_lt hkL] at hstep
              obtain ⟨x, hx⟩ : ∃ x, L[k] = x := ⟨_, rfl⟩
              rw [hx] at hlk hstep
              have HST := hid hstep
              have HACC := hid hacc.out
              clear hlc hx hstep hL hc f2 hacc
              rcases acc with _ | _
              · rcases hxe : (x == (s : Int)) with _ | _
                all_goals
                  have HX := hid hxe
                  go_wp2_with fail
                  go_roundg (ls.length - (j + 1))
                  case measure => omega
                  case rel => exact ⟨rfl, j + 1, _, by omega, rfl, by go_num, rfl, hid (by rw [HST.out, HX.out]; rfl)⟩
              · go_wp2_with fail
                go_roundg (ls.length - (j + 1))
                case measure => omega
                case rel => exact ⟨rfl, j + 1, _, by omega, rfl, by go_num, rfl, hid (by rw [HST.out]; rfl)⟩
            · obtain rfl : j = ls.length := by omega
              have hsucc := givenTo_succ ls k s
              have hacc2 := hacc.out
              rw [List.take_length] at hacc2
              rw [← hacc2] at hsucc
              have HSU := hid hsucc
              have hklen : k < (rowsTo ls nf ns k s).length := by rw [rowsTo_length]; exact hlt
              clear hacc hacc2 hsucc hlj hgj hj
              rcases acc with _ | _
              · go_wp2_with fail
                go_roundg (ns - (s + 1))
                case measure => omega
                case rel =>
                  refine ⟨s + 1, B2, us2, by omega, rfl, by go_num, hid ?_, hbw2⟩
                  have e : rowsTo ls nf ns k (s + 1) = rowsTo ls nf ns k s := by
                    unfold rowsTo
                    refine List.map_congr_left fun i _ => ?_
                    by_cases h : i = k
                    · subst h; rw [HSU.out]; simp
                    · simp [h]
                  rw [e]
                  exact hgr2.out
              · obtain ⟨v, hv, hown⟩ := hgr2.out.own hklen
                have e1 : (rowsTo ls nf ns k s)[k] = givenTo ls k s := by rw [rowsTo_at, if_neg (by omega), if_pos rfl]
                rw [e1] at hown
                have hgl := givenTo_len ls k s
                obtain ⟨v', w', hr2, ho', hg'⟩ := app_ints (w := wr.alloc (.cells #[.int .i64 (s : Int)] 3)) (c := 1) (A := some ⟨wr.heap.size, 0, none⟩) (ys := [(s : Int)]) (hown.alloc _) (fun _ => ⟨wr.heap.size, 0, rfl, fun j hj => by
                  have : j = 0 := by simpa using hj
                  subst this; simp⟩) (by simp; omega) (by have := hgr2.out.size; simp; omega)
                obtain ⟨A3, c3, rfl, _⟩ := ownsRow.form ho'
                have hgall : wr.grownBy w' v.ownBlock := (World.grownBy_alloc _ _ _).trans hg'
                have hlo : ∀ x, v.ownBlock = some x → B2 ≤ x := fun x e => (hown.lt x e).1
                have hcell : wr.cell? ⟨W.heap.size, k, none⟩ = some v := by rw [hgr2.out.block.cell]; exact hv
                have hgw : W.heap.size < wr.heap.size := Nat.lt_of_lt_of_le hgr2.out.low hgr2.out.size
                have hblk' : w'.heap[W.heap.size]? = wr.heap[W.heap.size]? := hgall.block _ hgw (fun e => by have := hlo _ e.symm; have := hgr2.out.low; omega)
                have hcell' : w'.cell? ⟨W.heap.size, k, none⟩ = some v := (World.cell?_of_block (a := ⟨W.heap.size, k, none⟩) hblk').trans hcell
                have hfr' : w'.frozen? ⟨W.heap.size, k, none⟩ = false := by
                  rw [World.frozen?_of_block (a := ⟨W.heap.size, k, none⟩) hblk']
                  have := hgr2.out.block
                  unfold Block at this
                  simp [World.frozen?, this]
                have e2 : ∀ (h : k < (rowsTo ls nf ns k (s + 1)).length), (rowsTo ls nf ns k (s + 1))[k] = givenTo ls k s ++ [(s : Int)] := fun h => by rw [rowsTo_at, if_neg (by omega), if_pos rfl, HSU.out, if_pos rfl]
                have hput := hgr2.out.put (rs' := rowsTo ls nf ns k (s + 1)) (v' := .slice A3 _ c3) hklen hgall hlo (by rw [rowsTo_length, rowsTo_length]) (fun j hj hjk => by rw [rowsTo_at, rowsTo_at, if_neg hjk, if_neg hjk]) (by rw [e2]; exact ho')
                have hbl : Below W.heap.size W (w'.setCell ⟨W.heap.size, k, none⟩ (.slice A3 (givenTo ls k s ++ [(s : Int)]).length c3)) := by
                  refine (hbw2.out.grown hgall hbw2.out.size (fun x e => by have := hlo x e; have := hgr2.out.low; omega)).setCell ?_ _
                  exact Nat.le_refl _
                simp only [List.length_append, List.length_cons, List.length_nil, Nat.zero_add] at hput hbl hr2
                have HP := hid hput
                have HBL := hid hbl
                have HR2 := hid hr2
                have i0 : (0 : Int) ≤ k := by omega
                have i1 : (k : Int) < nf := by omega
                clear hv hown e1 hr2 ho' hg' hgall hlo hblk' e2 hput hbl
                go_wp2_with (at_builtin; refine wpList_app rfl rfl rfl rfl rfl HR2.out ?_)
                go_roundg (ns - (s + 1))
                case measure => omega
                case rel => exact ⟨s + 1, B2, _, by omega, rfl, by go_num, HP, HBL⟩
        · obtain rfl : s = ns := by omega
          have hnx := hgr2.out.next
          rw [rowsTo_end] at hnx
          have HN := hid hnx
          clear hnx hls hgs hs
          go_wp2_with fail
          go_roundg (nf - (k + 1))
          case measure => omega
          case rel => exact ⟨k + 1, _, _, by omega, rfl, by go_num, HN, hbw2⟩
    · obtain rfl : k = nf := by omega
      have hfi := hgr.out.fits (rowsTo_length _ _ _ _ _)
      rw [rowsTo_last] at hfi
      have HFI := hid hfi
      clear hfi hlt hgk hk
      go_wp2_with fail
      go_ret
      exact ⟨HBW.out.trans (hbw.out.mono HBW.out.size), _, _, rfl, HFI.out⟩
/-- What the reference's Load comes to. -/
def SpanPost (ls : List (List Int)) (s : Int) (w : World) (e : Ending) (w' : World) : Prop :=
  w = w' ∧ ∃ low high, SpanTo ls s ls.length low high ∧ e = .returned (.tuple #[.int .i64 low, .int .i64 high])
set_option maxRecDepth 100000 in
set_option maxHeartbeats 4000000 in
theorem refLoad_any (ls : List (List Int)) (A : Option Addr) (c : Nat) (s : Int) (w : World) (hn : ls.length ≤ 100000) (hl : ∀ l ∈ ls, l.length ≤ 100) (hA : FitsAt w A ls) :
    Calls Try.prog 24 #[.slice A ls.length c, .int .i64 s] w (SpanPost ls s w) := by
  have HA := hid hA
  have HL := hid hl
  clear hA hl
  go_enter Try.func24, Try.ntmps24
  go_wp2_with fail
  go_loopg [6, 7, 8] (ls.length) (fun g lo hi i wr => wr = w ∧ ∃ (k : Nat) (low high : Int), k ≤ ls.length ∧ g = ls.length - k ∧ i = .int .i64 k ∧ lo = .int .i64 low ∧ hi = .int .i64 high ∧ Hid (SpanTo ls s k low high))
  case atStart => exact ⟨rfl, 0, 0, 0, by omega, by omega, rfl, rfl, rfl, hid (SpanTo.start _ _)⟩
  case round =>
    obtain ⟨rfl, k, low, high, hk, hgk, rfl, rfl, rfl, hsp⟩ := hrel
    by_cases hlt : k < ls.length
    · obtain ⟨b, off, rfl, hc⟩ := HA.out (by omega)
      obtain ⟨Aj, cj, f1, f2⟩ := hc k hlt
      have hL100 := HL.out _ (List.getElem_mem hlt)
      have hst := hsp.out.step hlt
      obtain ⟨L, hL⟩ : ∃ L, L = ls[k] := ⟨_, rfl⟩
      rw [← hL] at f1 f2 hL100 hst
      have F2 := hid f2
      have HST := hid hst
      clear hc hL f2 hst
      go_wp2_with fail
      go_loopg [9, 10] (L.length) (fun g n i ws => ws = wr ∧ ∃ j : Nat, j ≤ L.length ∧ g = L.length - j ∧ i = .int .i64 j ∧ n = .int .i64 (loadOf (L.take j) s))
      case atStart => exact ⟨rfl, 0, by omega, by omega, rfl, rfl⟩
      case round =>
        obtain ⟨rfl, j, hj, hgj, rfl, rfl⟩ := hrel
        by_cases hlj : j < L.length
        · obtain ⟨lb, loff, rfl, hlc⟩ := F2.out (by omega)
          have hlk := hlc j hlj
          have hsn := load_snoc hlj s
          have hlen := load_take_len L j s
          have i0 : (0 : Int) ≤ j := by omega
          have i1 : (j : Int) < L.length := by omega
          clear hlc
          by_cases he : L[j] = s
          · have d1 : (L[j] == s) = true := beq_iff_eq.2 he
            rw [if_pos he] at hsn
            have HSN := hid hsn
            clear he hsn
            go_wp2_with fail
            go_roundg (L.length - (j + 1))
            case measure => omega
            case rel => exact ⟨rfl, j + 1, by omega, rfl, by go_num, by rw [HSN.out]⟩
          · have d1 : (L[j] == s) = false := beq_eq_false_iff_ne.2 he
            rw [if_neg he] at hsn
            have HSN := hid hsn
            clear he hsn
            go_wp2_with fail
            go_roundg (L.length - (j + 1))
            case measure => omega
            case rel => exact ⟨rfl, j + 1, by omega, rfl, by go_num, by rw [HSN.out, Int.add_zero]⟩
        · obtain rfl : j = L.length := by omega
          rw [List.take_length]
          have hb := load_take_len L L.length s
          rw [List.take_length] at hb
          obtain ⟨x, hx⟩ : ∃ x, loadOf L s = x := ⟨_, rfl⟩
          rw [hx] at hb ⊢
          have HST2 : Hid (SpanTo ls s (k + 1) (if k = 0 ∨ x < low then x else low) (max high x)) := hid (by rw [← hx]; exact HST.out)
          clear hx hlj hgj hj
          rcases Int.lt_or_le high x with hm | hm
          · have HST2 : Hid (SpanTo ls s (k + 1) (if k = 0 ∨ x < low then x else low) x) := hid (by have := HST2.out; rwa [Int.max_eq_right (by omega)] at this)
            by_cases h0 : k = 0
            · have d1 : ((k : Int) == 0) = true := beq_iff_eq.2 (by omega)
              have HST3 : Hid (SpanTo ls s (k + 1) x x) := hid (by have := HST2.out; rwa [if_pos (.inl h0)] at this)
              have HK := hid h0
              clear h0
              have HST4 : Hid (SpanTo ls s (k + 1) x (max high x)) := hid (by rw [Int.max_eq_right (by omega)]; exact HST3.out)
              go_wp2_with fail
              go_roundg (ls.length - (k + 1))
              case measure => omega
              case rel => first | exact ⟨rfl, k + 1, _, _, by omega, rfl, by go_num, rfl, rfl, HST3⟩ | exact ⟨rfl, k + 1, _, _, by omega, rfl, by go_num, rfl, rfl, HST4⟩
            · have d1 : ((k : Int) == 0) = false := beq_eq_false_iff_ne.2 (by omega)
              by_cases h1 : x < low
              · have HST3 : Hid (SpanTo ls s (k + 1) x x) := hid (by have := HST2.out; rwa [if_pos (.inr h1)] at this)
                clear h0
                have HST4 : Hid (SpanTo ls s (k + 1) x (max high x)) := hid (by rw [Int.max_eq_right (by omega)]; exact HST3.out)
                go_wp2_with fail
                go_roundg (ls.length - (k + 1))
                case measure => omega
                case rel => first | exact ⟨rfl, k + 1, _, _, by omega, rfl, by go_num, rfl, rfl, HST3⟩ | exact ⟨rfl, k + 1, _, _, by omega, rfl, by go_num, rfl, rfl, HST4⟩
              · have HST3 : Hid (SpanTo ls s (k + 1) low x) := hid (by have := HST2.out; rwa [if_neg (by omega)] at this)
                clear h0
                have HST4 : Hid (SpanTo ls s (k + 1) low (max high x)) := hid (by rw [Int.max_eq_right (by omega)]; exact HST3.out)
                go_wp2_with fail
                go_roundg (ls.length - (k + 1))
                case measure => omega
                case rel => first | exact ⟨rfl, k + 1, _, _, by omega, rfl, by go_num, rfl, rfl, HST3⟩ | exact ⟨rfl, k + 1, _, _, by omega, rfl, by go_num, rfl, rfl, HST4⟩
          · have HST2 : Hid (SpanTo ls s (k + 1) (if k = 0 ∨ x < low then x else low) high) := hid (by have := HST2.out; rwa [Int.max_eq_left (by omega)] at this)
            by_cases h0 : k = 0
            · have d1 : ((k : Int) == 0) = true := beq_iff_eq.2 (by omega)
              have HST3 : Hid (SpanTo ls s (k + 1) x high) := hid (by have := HST2.out; rwa [if_pos (.inl h0)] at this)
              have HK := hid h0
              clear h0
              have HST4 : Hid (SpanTo ls s (k + 1) x (max high x)) := hid (by rw [Int.max_eq_left (by omega)]; exact HST3.out)
              go_wp2_with fail
              go_roundg (ls.length - (k + 1))
              case measure => omega
              case rel => first | exact ⟨rfl, k + 1, _, _, by omega, rfl, by go_num, rfl, rfl, HST3⟩ | exact ⟨rfl, k + 1, _, _, by omega, rfl, by go_num, rfl, rfl, HST4⟩
            · have d1 : ((k : Int) == 0) = false := beq_eq_false_iff_ne.2 (by omega)
              by_cases h1 : x < low
              · have HST3 : Hid (SpanTo ls s (k + 1) x high) := hid (by have := HST2.out; rwa [if_pos (.inr h1)] at this)
                clear h0
                have HST4 : Hid (SpanTo ls s (k + 1) x (max high x)) := hid (by rw [Int.max_eq_left (by omega)]; exact HST3.out)
                go_wp2_with fail
                go_roundg (ls.length - (k + 1))
                case measure => omega
                case rel => first | exact ⟨rfl, k + 1, _, _, by omega, rfl, by go_num, rfl, rfl, HST3⟩ | exact ⟨rfl, k + 1, _, _, by omega, rfl, by go_num, rfl, rfl, HST4⟩
              · have HST3 : Hid (SpanTo ls s (k + 1) low high) := hid (by have := HST2.out; rwa [if_neg (by omega)] at this)
                clear h0
                have HST4 : Hid (SpanTo ls s (k + 1) low (max high x)) := hid (by rw [Int.max_eq_left (by omega)]; exact HST3.out)
                go_wp2_with fail
                go_roundg (ls.length - (k + 1))
                case measure => omega
                case rel => first | exact ⟨rfl, k + 1, _, _, by omega, rfl, by go_num, rfl, rfl, HST3⟩ | exact ⟨rfl, k + 1, _, _, by omega, rfl, by go_num, rfl, rfl, HST4⟩
    · obtain rfl : k = ls.length := by omega
      go_wp2_with fail
      go_ret2
      exact ⟨rfl, _, _, hsp.out, rfl⟩
/-- What all comes to: the lists that extend a beginning, in rows of the call's own. -/
def AllPost (ls : List (List Int)) (w : World) (e : Ending) (w' : World) : Prop :=
  Below w.heap.size w w' ∧ ∃ A c us, e = .returned (.slice A ls.length c) ∧ w'.ownsRow w.heap.size 22 1 (.slice A ls.length c) ls.length us ∧ ListsOwn w' w.heap.size us ls

set_option maxRecDepth 100000 in
set_option maxHeartbeats 8000000 in
theorem all_base (b : Board) (Af As At A1 A2 : Option Addr) (cf cs ct c1 c2 : Nat) (begin load : List Int) (w : World) (hn : begin.length = b.finds.length) (h6 : b.finds.length ≤ 100) (h1 : IntsAt w A1 begin) :
    Calls Try.prog 63 #[.agg #[.slice Af b.finds.length cf, .slice As b.slots.length cs, .slice At b.fits.length ct], .slice A1 begin.length c1, .slice A2 load.length c2] w (AllPost [begin] w) := by
  obtain ⟨W, hW, e0, e1, e2, hbW, hz⟩ := box3 w (.slice Af b.finds.length cf) (.slice As b.slots.length cs) (.slice At b.fits.length ct) 26
  have H1 := hid (h1.kept (Kept.of_below hbW))
  have HBW := hid hbW
  have d1 : ((begin.length : Int) == b.finds.length) = true := beq_iff_eq.2 (by omega)
  have hbl : begin.length ≤ 100 := by omega
  obtain ⟨v', w', hr, ho, hg⟩ := app_ints (w := W.alloc (.cells #[] 3)) (base := W.heap.size) (xs := []) (v := .slice (some ⟨W.heap.size, 0, none⟩) 0 0) (ys := begin) (A := A1) (c := c1) (emptyRow W 3 1) (H1.out.kept (Kept.of_below ((Below.refl _ _).alloc (Nat.le_refl _) _))) (by simp; omega) (by simp)
  simp only [List.nil_append] at ho
  have hbb : Below W.heap.size W w' := ((Below.refl _ _).alloc (Nat.le_refl _) _).trans (Below.of_grown hg (by simp) (fun k e => by cases e; exact Nat.le_refl _))
  obtain ⟨A', c', rfl, _⟩ := ownsRow.form ho
  have HO := hid ho
  have HR := hid hr
  have HBB := hid hbb
  have HN := hid hn
  clear ho hg hr hbb h1 hbW hz hn
  go_enter Try.func63, Try.ntmps63
  go_wp2_with (at_builtin; refine wpList_app rfl rfl rfl rfl rfl HR.out ?_)
  go_ret
  refine ⟨HBW.out.trans ((HBB.out.alloc HBB.out.size _).mono HBW.out.size), _, _, [.slice A' begin.length c'], rfl, ?_, ?_⟩
  · refine ⟨by simp, .inr ⟨_, _, _, rfl, Nat.le_trans HBW.out.size HBB.out.size, heap_alloc_new _ _, by simp, by simp [maxLen], by simp, by simp⟩⟩
  · refine ⟨by simp, fun j hj => ?_⟩
    obtain rfl : j = 0 := by simpa using hj
    exact ⟨_, rfl, own_lo (own_below HO.out ((Below.refl _ _).alloc (Nat.le_refl _) _)) HBW.out.size⟩
theorem step_app1 {P : Program} {ops : Array Oper} {o : Oper} {a : Act} {w : World} {K : Act → World → Prop} {Q : Exit → Act → World → Prop} {E : Prop}
    (hg : o.guard = none) (s x : Operand) (t ty : TypeId) (hop : o.op = Op.call { callee := Callee.builtin Builtin.append, args := #[s, x], argTypes := #[t, t] }) (hty : o.type = ty)
    (v src : Value) (hs : a.eval s = v) (hx : a.eval x = src) (R : Value → World → Prop) (hr : ∃ v' w', (Builtin.append_ #[t, t] ty #[v, src]).run P w = .ok v' w' ∧ R v' w') (hK : ∀ v' w', R v' w' → K (a.put o.dst v') w') :
    if Region.wanted o (yielded ops a.tmps) = true then Oper.wp P o a w K Q else E := by
  have hw : Region.wanted o (yielded ops a.tmps) = true := by simp [Region.wanted, hg]
  rw [if_pos hw]
  obtain ⟨v', w', hrun, hR⟩ := hr
  subst hty
  unfold Oper.wp
  simp [execOp, hop, resolve, invoke, builtin, hs, hx, hrun, Result.andThen]
  exact hK v' w' hR
theorem step_call1 {P : Program} {ops : Array Oper} {o : Oper} {a : Act} {w : World} {K : Act → World → Prop} {Q : Exit → Act → World → Prop} {E : Prop}
    (hg : o.guard = none) (xs : Array Operand) (f : FuncId) (ats : Array TypeId) (hop : o.op = Op.call { callee := Callee.value (Operand.func f), args := xs, argTypes := ats })
    (hcf : ∀ v w, (callFunc f v).run P w = .ok (.enter f v) w) (v : Array Value) (hv : xs.map a.eval = v) (R : Value → World → Prop)
    (hc : Calls P f v w fun e w' => ∃ u, e = .returned u ∧ R u w') (hK : ∀ u w', R u w' → K (a.put o.dst u) w') :
    if Region.wanted o (yielded ops a.tmps) = true then Oper.wp P o a w K Q else E := by
  have hw : Region.wanted o (yielded ops a.tmps) = true := by simp [Region.wanted, hg]
  rw [if_pos hw]
  unfold Oper.wp
  have hr : (execOp a.eval o).run P w = .ok (.enter f v) w := by
    obtain ⟨dst, op, type, pos, after, guard⟩ := o
    dsimp only at hop
    subst hop
    rw [execOp_call_go, hv]
    simp [hcf]
  rw [hr, Oper.upon_enter]
  refine hc.mono ?_
  rintro e w' ⟨u, rfl, h⟩
  exact hK u w' h
theorem alloc_get1 (w : World) (o : Obj) (k : Nat) : (w.alloc o).heap[k]? = if k = w.heap.size then some o else w.heap[k]? := by
  show (w.heap.push o)[k]? = _
  rw [Array.getElem?_push]
theorem alloc_size1 (w : World) (o : Obj) : (w.alloc o).heap.size = w.heap.size + 1 := by
  show (w.heap.push o).size = _
  simp
theorem drew_heap1 (w : World) : w.drew.heap = w.heap := rfl
theorem keepA3 {V p : World} {p1 p2 p3 : Addr} {v1 v2 v3 : Value} (h1 : V.cell? p1 = some v1) (h2 : V.cell? p2 = some v2) (h3 : V.cell? p3 = some v3) (hb : Below V.heap.size V p) : p.cell? p1 = some v1 ∧ p.cell? p2 = some v2 ∧ p.cell? p3 = some v3 :=
  ⟨(Kept.of_below hb) _ _ h1, (Kept.of_below hb) _ _ h2, (Kept.of_below hb) _ _ h3⟩
theorem alloc_b {V p : World} (h : Below V.heap.size V p) (o : Obj) : Below V.heap.size V (p.alloc o) := h.alloc h.size o
/-- The copy of a row that an append to an empty row makes. -/
def CopyPost (V p : World) (g : Nat) (xs : List Int) (v : Value) (w' : World) : Prop :=
  w'.ownsRow V.heap.size 3 1 v xs.length (ints xs) ∧ Below V.heap.size V w' ∧ (∀ x o, x < p.heap.size → x ≠ g → w'.cell? ⟨x, o, none⟩ = p.cell? ⟨x, o, none⟩) ∧ p.heap.size ≤ w'.heap.size ∧ ∃ A c, v = .slice A xs.length c
theorem copy_row1 {V : World} {A : Option Addr} {c : Nat} {xs : List Int} (hm : xs.length ≤ 1000) (hA : IntsAt V A xs) (p : World) (g : Nat) (hb : Below V.heap.size V p) (hg : V.heap.size ≤ g) (hh : p.heap[g]? = some (.cells #[] 3 (0, 0))) :
    ∃ v' w', (Builtin.append_ #[22, 22] 22 #[.slice (some ⟨g, 0, none⟩) 0 0, .slice A xs.length c]).run Try.prog p = .ok v' w' ∧ CopyPost V p g xs v' w' := by
  obtain ⟨v', w', hr, ho, hgr⟩ := app_ints (w := p) (base := V.heap.size) (xs := []) (v := .slice (some ⟨g, 0, none⟩) 0 0) (ys := xs) (A := A) (c := c) ⟨by simp [ints], .inr ⟨g, 0, #[], rfl, hg, hh, Nat.le_refl _, Nat.zero_le _, by simp, by simp [ints]⟩⟩ (hA.kept (Kept.of_below hb)) (by simp; omega) hb.size
  simp only [List.nil_append] at ho
  obtain ⟨A', c', hv, _⟩ := ownsRow.form ho
  exact ⟨v', w', hr, ho, hb.grown hgr hb.size (fun k e => by cases e; exact hg), fun x o h1 h2 => World.cell?_of_block (a := ⟨x, o, none⟩) (hgr.block x h1 (fun e => h2 (Option.some.inj e))), hgr.size, A', c', hv⟩
/-- One number more behind a row of the call's own. -/
def MorePost (V : World) (xs : List Int) (x : Int) (v : Value) (w' : World) : Prop :=
  w'.ownsRow V.heap.size 3 1 v (xs.length + 1) (ints (xs ++ [x])) ∧ Below V.heap.size V w' ∧ ∃ A c, v = .slice A (xs.length + 1) c
theorem more_row1 {V : World} {xs : List Int} {x : Int} (hm : xs.length ≤ 1000) (p : World) (h : Nat) (v1 : Value) (hb : Below V.heap.size V p) (hc : p.cell? ⟨h, 0, none⟩ = some (.int .i64 x)) (ho1 : p.ownsRow V.heap.size 3 1 v1 xs.length (ints xs)) :
    ∃ v' w', (Builtin.append_ #[22, 22] 22 #[v1, .slice (some ⟨h, 0, none⟩) 1 1]).run Try.prog p = .ok v' w' ∧ MorePost V xs x v' w' := by
  obtain ⟨v', w', hr, ho, hgr⟩ := app_ints (w := p) (base := V.heap.size) (ys := [x]) (A := some ⟨h, 0, none⟩) (c := 1) ho1 (fun _ => ⟨h, 0, rfl, fun j hj => by
    obtain rfl : j = 0 := by simpa using hj
    exact hc⟩) (by simp; omega) hb.size
  simp only [List.length_append, List.length_cons, List.length_nil, Nat.zero_add] at ho
  obtain ⟨A', c', hv, _⟩ := ownsRow.form ho
  exact ⟨v', w', hr, ho, hb.grown hgr hb.size (fun k e => (ho1.lt k e).1), A', c', hv⟩
theorem ownsRow_ints1 {w : World} {base n k : Nat} {A : Option Addr} {xs : List Int} (h : w.ownsRow base 3 1 (.slice A n k) n (ints xs)) : IntsAt w A xs := by
  obtain ⟨A', c', e, hA⟩ := ownsRow.ints h
  cases e
  exact hA
def GotAll (V : World) (ls : List (List Int)) (u : Value) (w' : World) : Prop :=
  Below V.heap.size V w' ∧ ∃ A c us, u = .slice A ls.length c ∧ w'.ownsRow V.heap.size 22 1 (.slice A ls.length c) ls.length us ∧ ListsOwn w' V.heap.size us ls
theorem AllPost.got {V p w' : World} {ls : List (List Int)} {e : Ending} (h : AllPost ls p e w') (hb : Below V.heap.size V p) : ∃ u, e = .returned u ∧ GotAll V ls u w' := by
  obtain ⟨h1, A, c, us, rfl, h2, h3⟩ := h
  exact ⟨_, rfl, hb.trans (h1.mono hb.size), A, c, us, rfl, own_lo h2 hb.size, h3.lo hb.size⟩
theorem GotAll.post {V w w' : World} {ls : List (List Int)} {u : Value} (h : GotAll V ls u w') (hb : Below w.heap.size w V) : AllPost ls w (.returned u) w' := by
  obtain ⟨h1, A, c, us, rfl, h2, h3⟩ := h
  exact ⟨hb.trans (h1.mono hb.size), A, c, us, rfl, own_lo h2 hb.size, h3.lo hb.size⟩
theorem call63 (v : Array Value) (w : World) : (callFunc 63 v).run Try.prog w = .ok (.enter 63 v) w := by
  have h := Try.func63
  unfold callFunc
  simp [h, Try.f63]

set_option maxRecDepth 100000 in
set_option maxHeartbeats 8000000 in
theorem all_none (b : Board) (Af As At A1 A2 : Option Addr) (cf cs ct c1 c2 : Nat) (begin load : List Int) (ls : List (List Int)) (w : World) (hB : BoardAt w Af As At b) (h6 : b.finds.length ≤ 100) (h1 : IntsAt w A1 begin) (h2 : IntsAt w A2 load)
    (hk : begin.length < b.fits.length) (hf : b.fits.length = b.finds.length) (hnil : b.fits[begin.length].length = 0)
    (ih : ∀ (A : Option Addr) (c : Nat) (w' : World), BoardAt w' Af As At b → IntsAt w' A (begin ++ [-1]) → IntsAt w' A2 load → Calls Try.prog 63 #[.agg #[.slice Af b.finds.length cf, .slice As b.slots.length cs, .slice At b.fits.length ct], .slice A (begin.length + 1) c, .slice A2 load.length c2] w' (AllPost ls w')) :
    Calls Try.prog 63 #[.agg #[.slice Af b.finds.length cf, .slice As b.slots.length cs, .slice At b.fits.length ct], .slice A1 begin.length c1, .slice A2 load.length c2] w (AllPost ls w) := by
  obtain ⟨V, hW, e0, e1, e2, hbW, hz⟩ := box3 w (.slice Af b.finds.length cf) (.slice As b.slots.length cs) (.slice At b.fits.length ct) 26
  have H1 := hid (h1.kept (Kept.of_below hbW))
  have H2 := hid (h2.kept (Kept.of_below hbW))
  have HB := hid (hB.kept (Kept.of_below hbW))
  have HBW := hid hbW
  have d1 : ((begin.length : Int) == b.finds.length) = false := beq_eq_false_iff_ne.2 (by omega)
  have hbl : begin.length ≤ 100 := by omega
  obtain ⟨fb, foff, rfl, hfc⟩ := HB.out.fits (by omega)
  obtain ⟨Aj, cj, f1, _⟩ := hfc begin.length hk
  obtain ⟨m, hm⟩ : ∃ m, b.fits[begin.length].length = m := ⟨_, rfl⟩
  have d2 : ((m : Int) == 0) = true := beq_iff_eq.2 (by omega)
  rw [hm] at f1
  have HM := hid hm
  have HN := hid hnil
  have i0 : (0 : Int) ≤ begin.length := by omega
  have i1 : (begin.length : Int) < b.fits.length := by omega
  have HIH := hid ih
  have HF := hid hf
  clear h1 h2 hB hbW hz hm hfc hnil ih hf
  go_enter Try.func63, Try.ntmps63
  go_wp2_with fail
  have EF := hid (copy_row1 (V := V) (A := A1) (c := c1) (xs := begin) (by omega) H1.out)
  have EG := hid (more_row1 (V := V) (xs := begin) (x := -1) (by omega))
  have EC : Hid (∀ (p : World) (A : Option Addr) (c : Nat), Below V.heap.size V p → IntsAt p A (begin ++ [-1]) → Calls Try.prog 63 #[.agg #[.slice Af b.finds.length cf, .slice As b.slots.length cs, .slice (some ⟨fb, foff, none⟩) b.fits.length ct], .slice A (begin.length + 1) c, .slice A2 load.length c2] p fun e w' => ∃ u, e = .returned u ∧ GotAll V ls u w') :=
    hid (fun p A c hb hA => (HIH.out A c p (HB.out.kept (Kept.of_below hb)) hA (H2.out.kept (Kept.of_below hb))).mono fun e w' h => h.got hb)
  go_region_held3 (fun w' => w'.cell? ⟨w.heap.size, 0, none⟩ = some (.slice Af b.finds.length cf) ∧ w'.cell? ⟨w.heap.size, 1, none⟩ = some (.slice As b.slots.length cs) ∧ w'.cell? ⟨w.heap.size, 2, none⟩ = some (.slice (some ⟨fb, foff, none⟩) b.fits.length ct))
    (first
      | exact keepA3 e0 e1 e2 (Below.refl _ _).drew
      | exact keepA3 e0 e1 e2 (alloc_b (Below.refl V.heap.size V) _).drew
      | exact keepA3 e0 e1 e2 (alloc_b (Below.refl V.heap.size V).drew _)
      | exact keepA3 e0 e1 e2 (alloc_b (alloc_b (Below.refl V.heap.size V) _) _).drew
      | exact keepA3 e0 e1 e2 (alloc_b (alloc_b (Below.refl V.heap.size V).drew _) _)
      | exact keepA3 e0 e1 e2 BC.out
      | exact keepA3 e0 e1 e2 BB.out
      | exact keepA3 e0 e1 e2 BA.out
      | exact keepA3 e0 e1 e2 (alloc_b BA.out _))
    (first
      | (refine step_app1 rfl (.tmp 31) (.tmp 32) 22 22 rfl rfl (.slice (some ⟨V.heap.size, 0, none⟩) 0 0) (.slice A1 begin.length c1) ?hs ?hx _ (EF.out _ (V.heap.size) ?hb (Nat.le_refl _) ?hh) ?_
         case hs => simp [Act.eval]
         case hx => simp [Act.eval]
         case hb => first
           | exact (alloc_b (Below.refl V.heap.size V) _).drew
           | exact (alloc_b (alloc_b (Below.refl V.heap.size V) _) _).drew
         case hh =>
           try (simp only [alloc_get1, drew_heap1, alloc_size1, ↓reduceIte])
           repeat' split
           all_goals first
             | rfl
             | (exfalso; omega)
         rintro v1 p1 ⟨own1, BA, hcA, hsA, aA1, kk1, rfl⟩
         have OA := hid own1
         have BA := hid BA
         have hcA := hid hcA
         have hsA := hid hsA
         clear own1)
      | (refine step_app1 rfl (.tmp 31) (.tmp 32) 22 22 rfl rfl (.slice (some ⟨V.heap.size + 1, 0, none⟩) 0 0) (.slice A1 begin.length c1) ?hs ?hx _ (EF.out _ (V.heap.size + 1) ?hb (Nat.le_succ _) ?hh) ?_
         case hs => simp [Act.eval]
         case hx => simp [Act.eval]
         case hb => first
           | exact (alloc_b (Below.refl V.heap.size V) _).drew
           | exact (alloc_b (alloc_b (Below.refl V.heap.size V) _) _).drew
         case hh =>
           try (simp only [alloc_get1, drew_heap1, alloc_size1, ↓reduceIte])
           repeat' split
           all_goals first
             | rfl
             | (exfalso; omega)
         rintro v1 p1 ⟨own1, BA, hcA, hsA, aA1, kk1, rfl⟩
         have OA := hid own1
         have BA := hid BA
         have hcA := hid hcA
         have hsA := hid hsA
         clear own1)
      | (refine step_app1 rfl (.tmp 33) (.tmp 34) 22 22 rfl rfl (.slice aA1 begin.length kk1) (.slice (some ⟨p1.heap.size, 0, none⟩) 1 1) ?hs ?hx _ (EG.out _ (p1.heap.size) _ ?hb ?hc ?ho) ?_
         case hs => simp [Act.eval]
         case hx => simp [Act.eval]
         case hb => exact alloc_b BA.out _
         case hc => simp
         case ho => exact own_below OA.out ((Below.refl _ _).alloc (Nat.le_refl _) _)
         rintro v2 p2 ⟨own2, BB, aA2, kk2, rfl⟩
         have OB := hid own2
         have BB := hid BB
         clear own2)
      | (refine step_app1 rfl (.tmp 33) (.tmp 34) 22 22 rfl rfl (.slice aA1 begin.length kk1) (.slice (some ⟨V.heap.size + 1, 0, none⟩) 1 1) ?hs ?hx _ (EG.out _ (V.heap.size + 1) _ ?hb ?hc ?ho) ?_
         case hs => simp [Act.eval]
         case hx => simp [Act.eval]
         case hb => exact BA.out
         case hc => rw [hcA.out _ _ (by simp <;> omega) (by simp)]; simp only [World.cell?, drew_heap1, alloc_get1, alloc_size1]; simp
         case ho => exact OA.out
         rintro v2 p2 ⟨own2, BB, aA2, kk2, rfl⟩
         have OB := hid own2
         have BB := hid BB
         clear own2)
      | (refine step_app1 rfl (.tmp 33) (.tmp 34) 22 22 rfl rfl (.slice aA1 begin.length kk1) (.slice (some ⟨V.heap.size, 0, none⟩) 1 1) ?hs ?hx _ (EG.out _ (V.heap.size) _ ?hb ?hc ?ho) ?_
         case hs => simp [Act.eval]
         case hx => simp [Act.eval]
         case hb => exact BA.out
         case hc => rw [hcA.out _ _ (by simp <;> omega) (by simp)]; simp only [World.cell?, drew_heap1, alloc_get1, alloc_size1]; simp
         case ho => exact OA.out
         rintro v2 p2 ⟨own2, BB, aA2, kk2, rfl⟩
         have OB := hid own2
         have BB := hid BB
         clear own2)
      | (go_at_call 63
         refine (EC.out _ _ _ BB.out (ownsRow_ints1 OB.out)).mono ?_
         rintro e w3 ⟨u, rfl, hgot⟩
         have HGOT := hid hgot
         have BC := hid hgot.1
         obtain ⟨_, aU, kU, usU, rfl, _, _⟩ := hgot))
  all_goals
    go_wp2_with fail
    go_ret
    exact HGOT.out.post HBW.out
end Go.Proofs.Ytpmdjbjnihhjeaa
