/- Chances and Must. -/
import Derived.Test.YtpmdjbjnihhjeaaThrough
namespace Go.Proofs.Ytpmdjbjnihhjeaa
open Go.RowKit

/-- The values us are slices in memory of the call's own that hold the lists ls. -/
def ListsOwn (w : World) (base : Nat) (us : List Value) (ls : List (List Int)) : Prop :=
  us.length = ls.length ∧ ∀ j (h : j < ls.length), ∃ v, us[j]? = some v ∧ w.ownsRow base 3 1 v ls[j].length (ints ls[j])
theorem ListsOwn.below {w w' : World} {base : Nat} {us : List Value} {ls : List (List Int)} (h : ListsOwn w base us ls) (hb : Below w.heap.size w w') : ListsOwn w' base us ls :=
  ⟨h.1, fun j hj => by
    obtain ⟨v, h1, h2⟩ := h.2 j hj
    exact ⟨v, h1, own_below h2 hb⟩⟩
theorem own_other {w w' : World} {base size size' n n' : Nat} {base' : Nat} {v u : Value} {xs us : List Value} (hg : w.grownBy w' u.ownBlock) (h : w.ownsRow base 3 size v n xs) (k : w.ownsRow base' 22 size' u n' us) : w'.ownsRow base 3 size v n xs := by
  refine h.kept hg ?_
  rcases h.2 with ⟨rfl, _⟩ | ⟨g, cap, cur, rfl, _, h1, _⟩
  · exact .inl rfl
  · right
    rcases k.2 with ⟨rfl, _⟩ | ⟨g', cap', cur', rfl, _, k1, _⟩
    · simp [Value.ownBlock]
    · intro e
      have : g = g' := by simpa [Value.ownBlock] using e
      subst this
      rw [h1] at k1
      simp at k1
theorem ListsOwn.grown {w w' : World} {base base' n : Nat} {u : Value} {us vs : List Value} {ls : List (List Int)} (h : ListsOwn w base us ls) (hg : w.grownBy w' u.ownBlock) (k : w.ownsRow base' 22 1 u n vs) : ListsOwn w' base us ls :=
  ⟨h.1, fun j hj => by
    obtain ⟨v, h1, h2⟩ := h.2 j hj
    exact ⟨v, h1, own_other hg h2 k⟩⟩
theorem ListsOwn.snoc {w : World} {base : Nat} {us : List Value} {ls : List (List Int)} {v : Value} {l : List Int} (h : ListsOwn w base us ls) (hv : w.ownsRow base 3 1 v l.length (ints l)) : ListsOwn w base (us ++ [v]) (ls ++ [l]) := by
  refine ⟨by simp [h.1], fun j hj => ?_⟩
  rcases Nat.lt_or_ge j ls.length with hlt | hge
  · obtain ⟨u, h1, h2⟩ := h.2 j hlt
    refine ⟨u, by rw [List.getElem?_append_left (by rw [h.1]; exact hlt)]; exact h1, ?_⟩
    rw [List.getElem_append_left hlt]; exact h2
  · simp only [List.length_append, List.length_cons, List.length_nil] at hj
    obtain rfl : j = ls.length := by omega
    refine ⟨v, by rw [← h.1]; simp, ?_⟩
    simpa using hv
theorem ListsOwn.lo {w : World} {base base' : Nat} {us : List Value} {ls : List (List Int)} (h : ListsOwn w base us ls) (hb : base' ≤ base) : ListsOwn w base' us ls :=
  ⟨h.1, fun j hj => by
    obtain ⟨v, h1, h2, h3⟩ := h.2 j hj
    exact ⟨v, h1, h2, h3.imp id (fun ⟨g, cap, cur, a, b, c⟩ => ⟨g, cap, cur, a, Nat.le_trans hb b, c⟩)⟩⟩
theorem own_lo {w : World} {base base' e size n : Nat} {v : Value} {xs : List Value} (h : w.ownsRow base e size v n xs) (hb : base' ≤ base) : w.ownsRow base' e size v n xs :=
  ⟨h.1, h.2.imp id (fun ⟨g, cap, cur, a, b, c⟩ => ⟨g, cap, cur, a, Nat.le_trans hb b, c⟩)⟩
theorem ListsOwn.fits {w : World} {base base' cap : Nat} {A : Option Addr} {us : List Value} {ls : List (List Int)} (h : ListsOwn w base us ls) (k : w.ownsRow base' 22 1 (.slice A ls.length cap) ls.length us) : FitsAt w A ls := by
  refine FitsIn.at_ (us := us) ⟨h.1, fun j hj => ?_⟩ ?_
  · obtain ⟨v, h1, h2⟩ := h.2 j hj
    obtain ⟨A', c, rfl, hA⟩ := ownsRow.ints h2
    exact ⟨A', c, h1, hA⟩
  · obtain ⟨A', c, hv, hc, _⟩ := ownsRow.form k
    cases hv
    exact hc

/-- Of each of the first k finds the slots that some assignment gives it. -/
noncomputable def chancesTo (b : Board) (k : Nat) : List (List Int) := (List.range k).map (chancesOf b.fits (pieces b.slots))
noncomputable def Board.chances (b : Board) : List (List Int) := chancesTo b b.finds.length
theorem chancesTo_succ (b : Board) (k : Nat) : chancesTo b (k + 1) = chancesTo b k ++ [chancesOf b.fits (pieces b.slots) k] := by simp [chancesTo, List.range_succ]
theorem chancesTo_length (b : Board) (k : Nat) : (chancesTo b k).length = k := by simp [chancesTo]

/-- What Chances comes to. -/
def ChancesPost (b : Board) (w : World) (e : Ending) (w' : World) : Prop :=
  Below w.heap.size w w' ∧
    ((b.check ≠ 0 ∧ e = .returned (.tuple #[.slice none 0 0, .int .i64 b.check])) ∨
     (b.check = 0 ∧ (¬ ∃ a, b.As a) ∧ e = .returned (.tuple #[.slice none 0 0, .int .i64 40])) ∨
     (b.check = 0 ∧ (∃ a, b.As a) ∧ ∃ A c us, e = .returned (.tuple #[.slice A b.chances.length c, .int .i64 0]) ∧ w'.ownsRow w.heap.size 22 1 (.slice A b.chances.length c) b.chances.length us ∧ ListsOwn w' w.heap.size us b.chances))

theorem ret2_int {v : Value} {a b : Int} (h : a = b) : Ending.returned (.tuple #[v, .int .i64 a]) = .returned (.tuple #[v, .int .i64 b]) := by rw [h]

set_option maxRecDepth 100000 in
set_option maxHeartbeats 8000000 in
theorem everyChance_any (b : Board) (Af As At : Option Addr) (cf cs ct : Nat) (w : World) (hs : b.small) (hB : BoardAt w Af As At b) :
    Calls Try.prog 16 #[.agg #[.slice Af b.finds.length cf, .slice As b.slots.length cs, .slice At b.fits.length ct]] w (ChancesPost b w) := by
  have hn70 := hs.1
  have HS := hid hs
  obtain ⟨W, hW, c0, c1, c2, hbW, hz⟩ := box3 w (.slice Af b.finds.length cf) (.slice As b.slots.length cs) (.slice At b.fits.length ct) 26
  have HBW := hid hbW
  have hBW := hid (hB.kept (Kept.of_below hbW))
  clear hz hbW hB hs
  by_cases hc : b.check = 0
  case neg =>
    have d1 : (b.check != 0) = true := by simpa using hc
    have HC := hid hc
    clear hc
    go_enter Try.func16, Try.ntmps16
    go_wp2_with fail
    refine (check_any Af As At cf cs ct b W HS.out hBW.out).mono ?_
    rintro e w1 ⟨rfl, hb1⟩
    have HB1 := hid hb1
    clear hb1
    go_wp2_with fail
    go_ret2
    exact ⟨HBW.out.trans (HB1.out.mono HBW.out.size), .inl ⟨HC.out, rfl⟩⟩
  case pos =>
    have HC := hid hc
    have HG := hid (Board.check_good hc)
    have HFI := hid (Board.check_fine HS.out hc)
    clear hc
    go_enter Try.func16, Try.ntmps16
    go_wp2_with fail
    refine (check_t Af As At cf cs ct b W HS.out hBW.out HC.out).mono ?_
    rintro e w1 ⟨rfl, hb1⟩
    have k0 := (Kept.of_below hb1) _ _ c0
    have k1 := (Kept.of_below hb1) _ _ c1
    have k2 := (Kept.of_below hb1) _ _ c2
    have HB1 := hid hb1
    clear hb1 hW
    go_wp2_with fail
    refine (matched_any b Af As At cf cs ct w1 HFI.out (hBW.out.kept (Kept.of_below HB1.out))).mono ?_
    rintro e w2 (⟨tb, rfl, w0, hb, rb, has, h01, hT, hA⟩ | ⟨rfl, hb2, H, hS⟩)
    · have HT := hid hT
      have HA := hid hA
      have hb12 : Below w1.heap.size w1 w2 := h01.trans (hT.kept.mono h01.size)
      have HB12 := hid hb12
      have m0 := (Kept.of_below hb12) _ _ k0
      clear h01 hT hA hb12
      have hbb : Below w.heap.size w w2 := (HBW.out.trans (HB1.out.mono HBW.out.size)).trans (HB12.out.mono (Nat.le_trans HBW.out.size HB1.out.size))
      have HBB := hid hbb
      clear hbb
      go_wp2_with fail
      clear m0
      go_loopg [7, 25] (b.finds.length) (fun g v i wr => ∃ (k : Nat) (us : List Value), k ≤ b.finds.length ∧ g = b.finds.length - k ∧ i = .int .i64 k ∧ Hid (wr.ownsRow w2.heap.size 22 1 v k us) ∧ Hid (ListsOwn wr w2.heap.size us (chancesTo b k)) ∧ Hid (Below w2.heap.size w2 wr))
      case atStart => exact ⟨0, [], by omega, by omega, rfl, hid (World.ownsRow_nil _ _ _ _), hid ⟨rfl, fun j hj => by simp [chancesTo] at hj⟩, hid (Below.refl _ _)⟩
      case round =>
        obtain ⟨k, us, hk, hgk, rfl, hown, hli, hbw⟩ := hrel
        by_cases hlt : k < b.finds.length
        · go_wp2_with fail
          refine (chances_any w0 wr tb hb rb b _ has HFI.out (HT.out.below hbw.out) HA.out HG.out.inside HG.out.rooms k (by rw [HFI.out.fits]; exact hlt)).mono ?_
          rintro e w3 ⟨v3, rfl, hown3, hb3⟩
          have o1 := own_below hown.out hb3
          have l1 := (hli.out.below hb3).snoc (own_lo hown3 hbw.out.size)
          have hbw3 := hbw.out.trans (hb3.mono hbw.out.size)
          obtain ⟨A3, c3, rfl, _⟩ := ownsRow.form hown3
          have hal : Below w3.heap.size w3 (w3.alloc (.cells #[.slice A3 (chancesOf b.fits (pieces b.slots) k).length c3] 22)) := (Below.refl _ _).alloc (Nat.le_refl _) _
          obtain ⟨v', w', hr2, ho', hg'⟩ := app_fits (w := w3.alloc (.cells #[.slice A3 (chancesOf b.fits (pieces b.slots) k).length c3] 22)) (c := 1) (m := 1) (A := some ⟨w3.heap.size, 0, none⟩) (vs := [.slice A3 (chancesOf b.fits (pieces b.slots) k).length c3]) (own_below o1 hal) rfl (fun _ => ⟨w3.heap.size, 0, rfl, fun j u hj => by
            have hj0 : j = 0 := by have := (List.getElem?_eq_some_iff.1 hj).1; simpa using this
            subst hj0
            simp at hj
            subst hj
            simp⟩) (by simp [Value.oneCell']) (by omega) (Nat.le_trans hbw3.size hal.size)
          have HR2 := hid hr2
          have HO := hid ho'
          have HG2 := hid hg'
          have HO1 := hid (own_below o1 hal)
          have HL1 := hid (l1.below hal)
          have HB3 := hid (hbw3.trans (hal.mono hbw3.size))
          clear hown3 hb3 o1 l1 hbw3 hal hr2 ho' hg'
          go_wp2_with (at_builtin; refine wpList_app rfl rfl rfl rfl rfl HR2.out ?_)
          go_roundg (b.finds.length - (k + 1))
          case measure => omega
          case rel =>
            have hgb := HB3.out.grown HG2.out HB3.out.size (fun g e => (HO1.out.lt g e).1)
            refine ⟨k + 1, _, by omega, rfl, by go_num, HO, hid ?_, hid hgb⟩
            rw [chancesTo_succ]
            exact HL1.out.grown HG2.out HO1.out
        · obtain rfl : k = b.finds.length := by omega
          obtain ⟨A, c, rfl, _⟩ := ownsRow.form hown.out
          go_wp2_with fail
          go_ret2
          refine ⟨HBB.out.trans (hbw.out.mono HBB.out.size), .inr (.inr ⟨HC.out, ⟨has, HA.out⟩, A, c, us, ?_, ?_, hli.out.lo HBB.out.size⟩)⟩
          · unfold Board.chances
            rw [chancesTo_length]
            rfl
          · unfold Board.chances
            rw [chancesTo_length]
            exact own_lo hown.out HBB.out.size
    · have HB2 := hid hb2
      have HSH := hid hS
      clear hb2 hS
      go_wp2_with fail
      go_ret2
      exact ⟨(HBW.out.trans (HB1.out.mono HBW.out.size)).trans (HB2.out.mono (Nat.le_trans HBW.out.size HB1.out.size)), .inr (.inl ⟨HC.out, Board.no_as HC.out HSH.out, rfl⟩)⟩

theorem map_take_snoc {α β : Type} (f : α → β) (l : List α) (k : Nat) (h : k < l.length) : (l.take (k + 1)).map f = (l.take k).map f ++ [f l[k]] := by
  rw [List.take_succ_eq_append_getElem h, List.map_append]
  rfl

/-- The one slot of a list that has one alone. -/
def lone (c : List Int) : Int := match c with
  | [s] => s
  | _ => -1
theorem lone_one {c : List Int} (h : c.length = 1) : lone c = c[0] := by
  match c, h with
  | [s], _ => rfl
theorem lone_not {c : List Int} (h : c.length ≠ 1) : lone c = -1 := by
  match c, h with
  | [], _ => rfl
  | _ :: _ :: _, _ => rfl
  | [s], h => exact absurd rfl h
noncomputable def Board.must (b : Board) : List Int := b.chances.map lone

/-- What Must comes to. -/
def MustPost (b : Board) (w : World) (e : Ending) (w' : World) : Prop :=
  Below w.heap.size w w' ∧
    ((b.check ≠ 0 ∧ e = .returned (.tuple #[.slice none 0 0, .int .i64 b.check])) ∨
     (b.check = 0 ∧ (¬ ∃ a, b.As a) ∧ e = .returned (.tuple #[.slice none 0 0, .int .i64 40])) ∨
     (b.check = 0 ∧ (∃ a, b.As a) ∧ ∃ A c, e = .returned (.tuple #[.slice A b.must.length c, .int .i64 0]) ∧ IntsAt w' A b.must))

set_option maxRecDepth 100000 in
set_option maxHeartbeats 8000000 in
theorem must_any (b : Board) (Af As At : Option Addr) (cf cs ct : Nat) (w : World) (hs : b.small) (hB : BoardAt w Af As At b) :
    Calls Try.prog 17 #[.agg #[.slice Af b.finds.length cf, .slice As b.slots.length cs, .slice At b.fits.length ct]] w (MustPost b w) := by
  have hn70 := hs.1
  have HS := hid hs
  obtain ⟨W, hW, c0, c1, c2, hbW, hz⟩ := box3 w (.slice Af b.finds.length cf) (.slice As b.slots.length cs) (.slice At b.fits.length ct) 26
  have HBW := hid hbW
  have hBW := hid (hB.kept (Kept.of_below hbW))
  clear hz hbW hB hs
  go_enter Try.func17, Try.ntmps17
  go_wp2_with fail
  refine (everyChance_any b Af As At cf cs ct W HS.out hBW.out).mono ?_
  rintro e w1 ⟨hb1, ⟨h1, rfl⟩ | ⟨h1, h2, rfl⟩ | ⟨h1, h2, A, c, us, rfl, hown, hli⟩⟩
  · have HB1 := hid hb1
    have H1 := hid h1
    have d1 : (b.check != 0) = true := by simpa using h1
    clear hb1 h1 hW
    go_wp2_with fail
    go_ret2
    exact ⟨HBW.out.trans (HB1.out.mono HBW.out.size), .inl ⟨H1.out, rfl⟩⟩
  · have HB1 := hid hb1
    have H1 := hid h1
    have H2 := hid h2
    clear hb1 h1 hW h2
    go_wp2_with fail
    go_ret2
    exact ⟨HBW.out.trans (HB1.out.mono HBW.out.size), .inr (.inl ⟨H1.out, H2.out, rfl⟩)⟩
  · have HBB := hid (HBW.out.trans (hb1.mono HBW.out.size))
    have H1 := hid h1
    have H2 := hid h2
    have HAT := hid (hli.fits hown)
    have hlen : b.chances.length ≤ 100 := by unfold Board.chances; rw [chancesTo_length]; omega
    obtain ⟨Ls, hLs⟩ : ∃ Ls, Ls = b.chances := ⟨_, rfl⟩
    rw [← hLs] at HAT hlen ⊢
    have HLS := hid hLs
    clear hb1 h1 hW h2 hown hli hLs
    go_wp2_with fail
    go_loopg [6, 20] (Ls.length) (fun g v i wr => ∃ k : Nat, k ≤ Ls.length ∧ g = Ls.length - k ∧ i = .int .i64 k ∧ Hid (wr.ownsRow w1.heap.size 3 1 v ((Ls.take k).map lone).length (ints ((Ls.take k).map lone))) ∧ Hid (Below w1.heap.size w1 wr))
    case atStart => exact ⟨0, by omega, by omega, rfl, hid (World.ownsRow_nil _ _ _ _), hid (Below.refl _ _)⟩
    case round =>
      obtain ⟨k, hk, hgk, rfl, hown, hbw⟩ := hrel
      by_cases hlt : k < Ls.length
      · obtain ⟨ab, aoff, rfl, hc⟩ := (HAT.out.kept (Kept.of_below hbw.out)) (by omega)
        obtain ⟨Aj, cj, f1, f2⟩ := hc k hlt
        obtain ⟨L, hL⟩ : ∃ L, L = Ls[k] := ⟨_, rfl⟩
        have hmap : Hid ((Ls.take (k + 1)).map lone = (Ls.take k).map lone ++ [lone L]) := hid (by rw [hL]; exact map_take_snoc lone Ls k hlt)
        rw [← hL] at f1 f2
        clear hc hL
        have hl1 : ((Ls.take k).map lone).length ≤ 100 := by simp; omega
        have step : ∀ x, x = lone L → ∃ v' w', (Builtin.append_ #[22, 22] 22 #[u6, .slice (some ⟨wr.heap.size, 0, none⟩) 1 1]).run Try.prog (wr.alloc (.cells #[.int .i64 x] 3)) = .ok v' w' ∧ w'.ownsRow w1.heap.size 3 1 v' ((Ls.take (k + 1)).map lone).length (ints ((Ls.take (k + 1)).map lone)) ∧ Below w1.heap.size w1 w' := by
          rintro x rfl
          obtain ⟨v', w', hr2, ho', hg'⟩ := app_ints (w := wr.alloc (.cells #[.int .i64 (lone L)] 3)) (c := 1) (A := some ⟨wr.heap.size, 0, none⟩) (ys := [lone L]) (hown.out.alloc _) (fun _ => ⟨wr.heap.size, 0, rfl, fun j hj => by
            have : j = 0 := by simpa using hj
            subst this; simp⟩) (by simp at hl1 ⊢; omega) (by have := hbw.out.size; simp; omega)
          exact ⟨v', w', hr2, by rw [hmap.out]; exact ho', (hbw.out.alloc hbw.out.size _).grown hg' (by have := hbw.out.size; simp; omega) (fun g e => (hown.out.lt g e).1)⟩
        have STEP := hid step
        clear step
        by_cases h1 : L.length = 1
        · have d1 : ((L.length : Int) == 1) = true := beq_iff_eq.2 (by omega)
          obtain ⟨ac, aoc, rfl, hcc⟩ := f2 (by omega)
          have hl0 : 0 < L.length := by omega
          have f3 := hcc 0 hl0
          rw [Nat.add_zero] at f3
          obtain ⟨v', w', hr2, ho', hb'⟩ := STEP.out L[0] (lone_one h1).symm
          have HR2 := hid hr2
          have HO := hid ho'
          have HB := hid hb'
          have H1 := hid h1
          clear hcc h1 hr2 ho' hb'
          go_wp2_with (at_builtin; refine wpList_app rfl rfl rfl rfl rfl HR2.out ?_)
          go_roundg (Ls.length - (k + 1))
          case measure => omega
          case rel => exact ⟨k + 1, by omega, rfl, by go_num, HO, HB⟩
        · have d1 : ((L.length : Int) == 1) = false := beq_eq_false_iff_ne.2 (by omega)
          obtain ⟨v', w', hr2, ho', hb'⟩ := STEP.out (-1) (lone_not h1).symm
          have HR2 := hid hr2
          have HO := hid ho'
          have HB := hid hb'
          clear h1 hr2 ho' hb'
          go_wp2_with (at_builtin; refine wpList_app rfl rfl rfl rfl rfl HR2.out ?_)
          go_roundg (Ls.length - (k + 1))
          case measure => omega
          case rel => exact ⟨k + 1, by omega, rfl, by go_num, HO, HB⟩
      · obtain rfl : k = Ls.length := by omega
        have hown' := hown.out
        rw [List.take_length] at hown'
        obtain ⟨A2, c2, rfl, hA2⟩ := ownsRow.ints hown'
        have HA2 := hid hA2
        clear hown' hA2
        go_wp2_with fail
        go_ret2
        refine ⟨HBB.out.trans (hbw.out.mono HBB.out.size), .inr (.inr ⟨H1.out, H2.out, A2, c2, ?_, ?_⟩)⟩
        · unfold Board.must
          rw [← HLS.out]
          rfl
        · unfold Board.must
          rw [← HLS.out]
          exact HA2.out
end Go.Proofs.Ytpmdjbjnihhjeaa
