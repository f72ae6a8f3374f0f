/- MatchAll, walked: the law's function returns true (and All, whole). -/
import Derived.Test.YtpmdjbjnihhjeaaAllMore
import Derived.Test.YtpmdjbjnihhjeaaLoadsLaw
import Derived.Test.YtpmdjbjnihhjeaaWithin
import Derived.Deep.OwnRows
set_option linter.unusedSimpArgs false
namespace Go.Proofs.Ytpmdjbjnihhjeaa
open Go.RowKit
theorem chances_of {b : Board} {i : Nat} (h : i < b.chances.length) : b.chances[i] = chancesOf b.fits (pieces b.slots) i := by simp [Board.chances, chancesTo]
theorem must_of {b : Board} {i : Nat} (h : i < b.must.length) : b.must[i] = lone (chancesOf b.fits (pieces b.slots) i) := by simp [Board.must, Board.chances, chancesTo]
theorem call_all (v : Array Value) (w : World) : (callFunc 63 v).run Try.prog w = .ok (.enter 63 v) w := call63 v w
set_option maxRecDepth 100000 in
set_option maxHeartbeats 8000000 in
/-- All comes to all assignments of a board, in order. -/
theorem allOf_any (b : Board) (Af As At : Option Addr) (cf cs ct : Nat) (w : World) (hg : b.Good) (h6 : b.finds.length ≤ 6) (hs12 : b.slots.length ≤ 12) (h5 : ∀ l ∈ b.fits, l.length ≤ 5) (hB : BoardAt w Af As At b) :
    Calls Try.prog 20 #[.agg #[.slice Af b.finds.length cf, .slice As b.slots.length cs, .slice At b.fits.length ct]] w (AllPost b.all w) := by
  obtain ⟨V, hW, e0, e1, e2, hbW, hz⟩ := box3 w (.slice Af b.finds.length cf) (.slice As b.slots.length cs) (.slice At b.fits.length ct) 26
  have HB := hid (hB.kept (Kept.of_below hbW))
  have HBW := hid hbW
  obtain ⟨i, i1, i2, i3, i4⟩ := ints_info
  have hmk := fun w => run_make_row (P := Try.prog) 22 3 i (.int .i64 0) intsl_u i1 i2 i3 rfl .i64 .i64 b.slots.length (by rw [i4]; omega) (by omega) w
  have EC : Hid (∀ (p : World), Below V.heap.size V p → ∀ g, p.heap[g]? = some (.cells (madeCells #[.int .i64 0] b.slots.length) 3 (0, 0)) → Calls Try.prog 63 #[.agg #[.slice Af b.finds.length cf, .slice As b.slots.length cs, .slice At b.fits.length ct], .slice none 0 0, .slice (some ⟨g, 0, none⟩) b.slots.length b.slots.length] p fun e w' => ∃ u, e = .returned u ∧ GotAll V b.all u w') := by
    refine hid fun p hb g hgc => ?_
    have hbl : Block p g 3 (ints (List.replicate b.slots.length 0)) := by
      unfold Block
      rw [hgc, ints_replicate, ← made1]
    have h2 : IntsAt p (some ⟨g, 0, none⟩) (List.replicate b.slots.length 0) := (RowAt.of_block hbl).intsAt
    have := all_any b Af As At cf cs ct hg h6 hs12 h5 b.finds.length [] (List.replicate b.slots.length 0) none (some ⟨g, 0, none⟩) 0 b.slots.length p (by simp) (HB.out.kept (Kept.of_below hb)) (IntsAt.nil _ _) h2 (by simp) (fun x hx => by rw [List.eq_of_mem_replicate hx]; simp)
    simp only [List.length_replicate, List.length_nil, List.drop_zero] at this
    exact this.mono fun e w' h => AllPost.got (ls := b.all) h hb
  clear hB hbW hz i1 i2 i3 i4
  go_enter Try.func20, Try.ntmps20
  go_wp2_with fail
  go_region_held3 (fun w' => w'.cell? ⟨w.heap.size, 0, none⟩ = some (.slice Af b.finds.length cf) ∧ w'.cell? ⟨w.heap.size, 1, none⟩ = some (.slice As b.slots.length cs) ∧ w'.cell? ⟨w.heap.size, 2, none⟩ = some (.slice At b.fits.length ct))
    (first
      | exact keepA3 e0 e1 e2 (Below.refl _ _).drew
      | exact keepA3 e0 e1 e2 (alloc_b (Below.refl V.heap.size V) _).drew
      | exact keepA3 e0 e1 e2 (alloc_b (Below.refl V.heap.size V).drew _)
      | exact keepA3 e0 e1 e2 BC.out)
    (first
      | (go_at_call 63
         refine (EC.out _ (by first | exact (alloc_b (Below.refl V.heap.size V) _).drew | exact (alloc_b (Below.refl V.heap.size V).drew _)) _ (heap_alloc_new _ _)).mono ?_
         rintro e w3 ⟨u, rfl, hgot⟩
         have HGOT := hid hgot
         have BC := hid hgot.1
         obtain ⟨_, aU, kU, usU, rfl, _, _⟩ := hgot))
  all_goals
    go_wp2_with fail
    go_ret
    exact HGOT.out.post HBW.out
theorem load_same {b : Board} (hg : b.Good) {s low high lo hi : Int} (h : LoadIs b s low high) (k : SpanTo b.all s b.all.length lo hi) : low = lo ∧ high = hi := by
  have hmem : ∀ a, b.As a → ∃ j, ∃ h : j < b.all.length, b.all[j] = a := fun a ha => List.getElem_of_mem ((Board.all_as hg).2 ha)
  obtain ⟨a, ha, e1⟩ := h.lowIs
  obtain ⟨c, hc, e2⟩ := h.highIs
  obtain ⟨j, hj, ej⟩ := hmem a ha
  obtain ⟨i, hi', ei⟩ := hmem c hc
  have h1 := k.low j hj hj
  have h2 := k.high i hi' hi'
  rw [ej] at h1
  rw [ei] at h2
  obtain ⟨j2, hj2, _, e3⟩ := k.lowIs (by omega)
  have h3 := h.all _ ((Board.all_as hg).1 (List.getElem_mem hj2))
  refine ⟨by omega, ?_⟩
  rcases k.highIs with e4 | ⟨j3, hj3, _, e4⟩
  · have := loadOf_nonneg c s
    omega
  · have h4 := h.all _ ((Board.all_as hg).1 (List.getElem_mem hj3))
    omega
theorem askOf_out {b : Board} {s : Int} (h : b.check = 0) (ho : s < 0 ∨ b.slots.length ≤ s) : askOf b 0 s true false = 1 := by
  have : inB s 0 (b.slots.length - 1) = false := by simp [inB]; omega
  unfold askOf
  rw [if_pos h, this]
  rfl

theorem chances_small {b : Board} (hf : b.Fine) {l : List Int} (hl : l ∈ b.chances) : l.length ≤ 9223372036854775807 := by
  obtain ⟨i, hi, rfl⟩ := List.getElem_of_mem hl
  rw [chances_of hi]
  refine Nat.le_trans chancesOf_len ?_
  by_cases h : i < b.fits.length
  · rw [fitOf_lt h]; have := hf.lens _ (List.getElem_mem h); omega
  · rw [fitOf_ge (by omega)]; simp

set_option maxRecDepth 100000 in
set_option maxHeartbeats 32000000 in
theorem matchAll_any (b : Board) (Af As At : Option Addr) (cf cs ct : Nat) (s : Int) (w : World) (hB : BoardAt w Af As At b) :
    Calls Try.prog 3 #[.agg #[.slice Af b.finds.length cf, .slice As b.slots.length cs, .slice At b.fits.length ct], .int .i64 s] w (LawPost w) := by
  obtain ⟨W, hW, b0, b1, b2, hbW, hz⟩ := box3 w (.slice Af b.finds.length cf) (.slice As b.slots.length cs) (.slice At b.fits.length ct) 26
  have HBW := hid hbW
  have hBW := hid (hB.kept (Kept.of_below hbW))
  have hB0 := hid hB
  clear hz hbW hB
  go_enter Try.func3, Try.ntmps3
  go_wp2_with fail
  refine (few_any b Af As At cf cs ct W hBW.out).mono ?_
  rintro e w1 ⟨t, rfl, hb1, hw1⟩
  have k0 := (Kept.of_below hb1) _ _ b0
  have k1 := (Kept.of_below hb1) _ _ b1
  have k2 := (Kept.of_below hb1) _ _ b2
  have HB1 := hid (HBW.out.trans (hb1.mono HBW.out.size))
  clear hb1 hW b0 b1 b2 hBW HBW
  rcases t with _ | _
  case false =>
    go_wp2_with fail
    refine (matched_true w1).mono ?_
    rintro e w2 ⟨rfl, hb2⟩
    have HB2 := hid hb2
    clear hb2
    go_wp2_with fail
    go_ret
    exact ⟨rfl, HB1.out.trans (HB2.out.mono HB1.out.size)⟩
  have HFEW := hid (hw1 rfl)
  have HS := hid (hw1 rfl).1.small
  clear hw1
  go_wp2_with fail
  refine (assign_any b Af As At cf cs ct w1 HS.out (hB0.out.kept (Kept.of_below HB1.out))).mono ?_
  rintro e w2 ⟨hb2, hp2⟩
  have HP2 := hid hp2
  have m0 := (Kept.of_below hb2) _ _ k0
  have m1 := (Kept.of_below hb2) _ _ k1
  have m2 := (Kept.of_below hb2) _ _ k2
  have HB2 := hid (HB1.out.trans (hb2.mono HB1.out.size))
  clear hb2 hp2 k0 k1 k2
  have HSZ : Hid (b.check = 0 → b.finds.length ≤ 6 ∧ b.slots.length ≤ 12) := hid fun hc => by
    have := Board.check_sizes hc
    have := HFEW.out.2
    omega
  have n1 := HS.out.1
  have n2 := HS.out.2.1
  have n3 := HS.out.2.2.1
  by_cases hc : b.check = 0
  case neg =>
    have d1 : (b.check != 0) = true := bne_iff_ne.2 hc
    have HC := hid hc
    clear hc
    rcases HP2.out with ⟨_, rfl⟩ | ⟨h0, _⟩ | ⟨h0, _⟩
    rotate_left
    · exact absurd h0 HC.out
    · exact absurd h0 HC.out
    clear HP2
    go_wp2_with fail
    refine (everyChance_any b Af As At cf cs ct w2 HS.out (hB0.out.kept (Kept.of_below HB2.out))).mono ?_
    rintro e w3 ⟨hb3, ⟨_, rfl⟩ | ⟨h0, _⟩ | ⟨h0, _⟩⟩
    rotate_left
    · exact absurd h0 HC.out
    · exact absurd h0 HC.out
    have HB3 := hid (HB2.out.trans (hb3.mono HB2.out.size))
    have k30 := (Kept.of_below hb3) _ _ m0
    have k31 := (Kept.of_below hb3) _ _ m1
    have k32 := (Kept.of_below hb3) _ _ m2
    clear hb3 m0 m1 m2
    go_wp2_with fail
    refine (must_any b Af As At cf cs ct w3 HS.out (hB0.out.kept (Kept.of_below HB3.out))).mono ?_
    rintro e w4 ⟨hb4, ⟨_, rfl⟩ | ⟨h0, _⟩ | ⟨h0, _⟩⟩
    rotate_left
    · exact absurd h0 HC.out
    · exact absurd h0 HC.out
    have HB4 := hid (HB3.out.trans (hb4.mono HB3.out.size))
    have k40 := (Kept.of_below hb4) _ _ k30
    have k41 := (Kept.of_below hb4) _ _ k31
    have k42 := (Kept.of_below hb4) _ _ k32
    clear hb4 k30 k31 k32
    go_wp2_with fail
    refine (load_of_any b Af As At cf cs ct w4 HS.out (hB0.out.kept (Kept.of_below HB4.out)) s).mono ?_
    rintro e w5 ⟨hb5, ⟨_, rfl⟩ | ⟨h0, _⟩ | ⟨h0, _⟩⟩
    rotate_left
    · exact absurd (askOf_ok h0) HC.out
    · exact absurd (askOf_ok h0) HC.out
    rw [askOf_bad HC.out]
    have HB5 := hid (HB4.out.trans (hb5.mono HB4.out.size))
    have k50 := (Kept.of_below hb5) _ _ k40
    have k51 := (Kept.of_below hb5) _ _ k41
    have k52 := (Kept.of_below hb5) _ _ k42
    clear hb5 k40 k41 k42
    go_wp2_with fail
    refine (refCheck_any Af As At cf cs ct b w5 HS.out (hB0.out.kept (Kept.of_below HB5.out))).mono ?_
    rintro e w6 ⟨rfl, hb6⟩
    have HB6 := hid (HB5.out.trans (hb6.mono HB5.out.size))
    have k60 := (Kept.of_below hb6) _ _ k50
    have k61 := (Kept.of_below hb6) _ _ k51
    have k62 := (Kept.of_below hb6) _ _ k52
    clear hb6 k50 k51 k52
    go_wp2_with fail
    refine (matched_true w6).mono ?_
    rintro e w7 ⟨rfl, hb7⟩
    have HB7 := hid (HB6.out.trans (hb7.mono HB6.out.size))
    clear hb7
    go_wp2_with fail
    go_ret
    exact ⟨ret_true (by simp), HB7.out⟩
  case pos =>
    have HC := hid hc
    have HG := hid (Board.check_good hc)
    have HFI := hid (Board.check_fine HS.out hc)
    have h6 := (HSZ.out hc).1
    have h12 := (HSZ.out hc).2
    clear hc
    by_cases hex : ∃ a, b.As a
    case neg =>
      have HX := hid hex
      have hall : b.all.length = 0 := by
        rcases Nat.eq_zero_or_pos b.all.length with h | h
        · exact h
        · exact absurd ((Board.all_some HG.out).1 h) hex
      have HALL := hid hall
      clear hex hall
      rcases HP2.out with ⟨h0, _⟩ | ⟨_, _, rfl⟩ | ⟨_, A, c, a, h0, _⟩
      · exact absurd HC.out h0
      rotate_left
      · exact absurd ⟨a, h0.is⟩ HX.out
      clear HP2
      go_wp2_with fail
      refine (everyChance_any b Af As At cf cs ct w2 HS.out (hB0.out.kept (Kept.of_below HB2.out))).mono ?_
      rintro e w3 ⟨hb3, ⟨h0, _⟩ | ⟨_, _, rfl⟩ | ⟨_, h0, _⟩⟩
      · exact absurd HC.out h0
      rotate_left
      · exact absurd h0 HX.out
      have HB3 := hid (HB2.out.trans (hb3.mono HB2.out.size))
      have k30 := (Kept.of_below hb3) _ _ m0
      have k31 := (Kept.of_below hb3) _ _ m1
      have k32 := (Kept.of_below hb3) _ _ m2
      clear hb3 m0 m1 m2
      go_wp2_with fail
      refine (must_any b Af As At cf cs ct w3 HS.out (hB0.out.kept (Kept.of_below HB3.out))).mono ?_
      rintro e w4 ⟨hb4, ⟨h0, _⟩ | ⟨_, _, rfl⟩ | ⟨_, h0, _⟩⟩
      · exact absurd HC.out h0
      rotate_left
      · exact absurd h0 HX.out
      have HB4 := hid (HB3.out.trans (hb4.mono HB3.out.size))
      have k40 := (Kept.of_below hb4) _ _ k30
      have k41 := (Kept.of_below hb4) _ _ k31
      have k42 := (Kept.of_below hb4) _ _ k32
      clear hb4 k30 k31 k32
      have hload := load_of_any b Af As At cf cs ct w4 HS.out (hB0.out.kept (Kept.of_below HB4.out)) s
      have HLOAD := hid hload
      clear hload
      have hask : (s < 0 ∧ askOf b 0 s true false = 1) ∨ (¬ s < 0 ∧ (b.slots.length : Int) ≤ s ∧ askOf b 0 s true false = 1) ∨ (¬ s < 0 ∧ ¬ (b.slots.length : Int) ≤ s ∧ askOf b 0 s true false = 0) := by
        by_cases g1 : s < 0
        · exact .inl ⟨g1, askOf_out HC.out (.inl g1)⟩
        · by_cases g2 : (b.slots.length : Int) ≤ s
          · exact .inr (.inl ⟨g1, g2, askOf_out HC.out (.inr g2)⟩)
          · exact .inr (.inr ⟨g1, g2, askOf_mk HC.out (by omega) (by omega)⟩)
      have HASK := hid hask
      clear hask
      have hcheck := fun (w : World) (hB : BoardAt w Af As At b) => refCheck_t Af As At cf cs ct b w HS.out hB HC.out
      have HCH := hid hcheck
      clear hcheck
      have hallof := fun (w : World) (hB : BoardAt w Af As At b) => allOf_any b Af As At cf cs ct w HG.out h6 h12 HFEW.out.1.2.2.2 hB
      have HAO := hid hallof
      clear hallof
      rcases HASK.out with ⟨g1, ga⟩ | ⟨g1, g2, ga⟩ | ⟨g1, g2, ga⟩
      · have GA := hid ga
        clear HASK ga
        go_wp2_with fail
        refine HLOAD.out.mono ?_
        rintro e w5 ⟨hb5, ⟨_, rfl⟩ | ⟨h0, _⟩ | ⟨h0, _⟩⟩
        rotate_left
        · exact absurd (GA.out.symm.trans h0) (by decide)
        · exact absurd (GA.out.symm.trans h0) (by decide)
        rw [GA.out]
        have HB5 := hid (HB4.out.trans (hb5.mono HB4.out.size))
        have k50 := (Kept.of_below hb5) _ _ k40
        have k51 := (Kept.of_below hb5) _ _ k41
        have k52 := (Kept.of_below hb5) _ _ k42
        clear hb5 k40 k41 k42
        go_wp2_with fail
        refine (HCH.out w5 (hB0.out.kept (Kept.of_below HB5.out))).mono ?_
        rintro e w6 ⟨rfl, hb6⟩
        have HB6 := hid (HB5.out.trans (hb6.mono HB5.out.size))
        have k60 := (Kept.of_below hb6) _ _ k50
        have k61 := (Kept.of_below hb6) _ _ k51
        have k62 := (Kept.of_below hb6) _ _ k52
        clear hb6 k50 k51 k52
        go_wp2_with fail
        refine (HAO.out w6 (hB0.out.kept (Kept.of_below HB6.out))).mono ?_
        rintro e w7 ⟨hb7, AL, cL, us, rfl, hown, hli⟩
        rw [HALL.out]
        have HB7 := hid (HB6.out.trans (hb7.mono HB6.out.size))
        have k70 := (Kept.of_below hb7) _ _ k60
        have k71 := (Kept.of_below hb7) _ _ k61
        have k72 := (Kept.of_below hb7) _ _ k62
        clear hb7 k60 k61 k62
        clear hown hli
        go_wp2_with fail
        refine (matched_true w7).mono ?_
        rintro e w8 ⟨rfl, hb8⟩
        have HB8 := hid (HB7.out.trans (hb8.mono HB7.out.size))
        clear hb8
        go_wp2_with fail
        go_ret
        exact ⟨ret_true (by first | (simp; done) | (simp; omega)), HB8.out⟩
      · have GA := hid ga
        clear HASK ga
        go_wp2_with fail
        refine HLOAD.out.mono ?_
        rintro e w5 ⟨hb5, ⟨_, rfl⟩ | ⟨h0, _⟩ | ⟨h0, _⟩⟩
        rotate_left
        · exact absurd (GA.out.symm.trans h0) (by decide)
        · exact absurd (GA.out.symm.trans h0) (by decide)
        rw [GA.out]
        have HB5 := hid (HB4.out.trans (hb5.mono HB4.out.size))
        have k50 := (Kept.of_below hb5) _ _ k40
        have k51 := (Kept.of_below hb5) _ _ k41
        have k52 := (Kept.of_below hb5) _ _ k42
        clear hb5 k40 k41 k42
        go_wp2_with fail
        refine (HCH.out w5 (hB0.out.kept (Kept.of_below HB5.out))).mono ?_
        rintro e w6 ⟨rfl, hb6⟩
        have HB6 := hid (HB5.out.trans (hb6.mono HB5.out.size))
        have k60 := (Kept.of_below hb6) _ _ k50
        have k61 := (Kept.of_below hb6) _ _ k51
        have k62 := (Kept.of_below hb6) _ _ k52
        clear hb6 k50 k51 k52
        go_wp2_with fail
        refine (HAO.out w6 (hB0.out.kept (Kept.of_below HB6.out))).mono ?_
        rintro e w7 ⟨hb7, AL, cL, us, rfl, hown, hli⟩
        rw [HALL.out]
        have HB7 := hid (HB6.out.trans (hb7.mono HB6.out.size))
        have k70 := (Kept.of_below hb7) _ _ k60
        have k71 := (Kept.of_below hb7) _ _ k61
        have k72 := (Kept.of_below hb7) _ _ k62
        clear hb7 k60 k61 k62
        clear hown hli
        go_wp2_with fail
        refine (matched_true w7).mono ?_
        rintro e w8 ⟨rfl, hb8⟩
        have HB8 := hid (HB7.out.trans (hb8.mono HB7.out.size))
        clear hb8
        go_wp2_with fail
        go_ret
        exact ⟨ret_true (by first | (simp; done) | (simp; omega)), HB8.out⟩
      · have GA := hid ga
        clear HASK ga
        go_wp2_with fail
        refine HLOAD.out.mono ?_
        rintro e w5 ⟨hb5, ⟨h0, _⟩ | ⟨_, _, rfl⟩ | ⟨_, h0, _⟩⟩
        · exact absurd GA.out h0
        rotate_left
        · exact absurd h0 HX.out
        have HB5 := hid (HB4.out.trans (hb5.mono HB4.out.size))
        have k50 := (Kept.of_below hb5) _ _ k40
        have k51 := (Kept.of_below hb5) _ _ k41
        have k52 := (Kept.of_below hb5) _ _ k42
        clear hb5 k40 k41 k42
        go_wp2_with fail
        refine (HCH.out w5 (hB0.out.kept (Kept.of_below HB5.out))).mono ?_
        rintro e w6 ⟨rfl, hb6⟩
        have HB6 := hid (HB5.out.trans (hb6.mono HB5.out.size))
        have k60 := (Kept.of_below hb6) _ _ k50
        have k61 := (Kept.of_below hb6) _ _ k51
        have k62 := (Kept.of_below hb6) _ _ k52
        clear hb6 k50 k51 k52
        go_wp2_with fail
        refine (HAO.out w6 (hB0.out.kept (Kept.of_below HB6.out))).mono ?_
        rintro e w7 ⟨hb7, AL, cL, us, rfl, hown, hli⟩
        rw [HALL.out]
        have HB7 := hid (HB6.out.trans (hb7.mono HB6.out.size))
        have k70 := (Kept.of_below hb7) _ _ k60
        have k71 := (Kept.of_below hb7) _ _ k61
        have k72 := (Kept.of_below hb7) _ _ k62
        clear hb7 k60 k61 k62
        clear hown hli
        go_wp2_with fail
        refine (matched_true w7).mono ?_
        rintro e w8 ⟨rfl, hb8⟩
        have HB8 := hid (HB7.out.trans (hb8.mono HB7.out.size))
        clear hb8
        go_wp2_with fail
        go_ret
        exact ⟨ret_true (by first | (simp; done) | (simp; omega)), HB8.out⟩
    case pos =>
      have HX := hid hex
      have hallp : 0 < b.all.length := (Board.all_some HG.out).2 hex
      have HALLP := hid hallp
      have d0 : decide ((0 : Int) < b.all.length) = true := decide_eq_true (by omega)
      have d0' : decide (0 < b.all.length) = true := decide_eq_true hallp
      have hallp' : ¬ b.all.length = 0 := by omega
      have halln : b.all.length ≤ 100000 := by
        have := allTo_count (room := pieces b.slots) (begin := []) (load := List.replicate b.slots.length 0) HFEW.out.1.2.2.2
        have h3 : b.fits.length ≤ 6 := by rw [HFI.out.fits]; exact h6
        exact Nat.le_trans this (Nat.le_trans (Nat.pow_le_pow_right (by omega) h3) (by decide))
      have hal : ∀ l ∈ b.all, l.length = b.finds.length := fun l hl => by
        have := ((Board.all_as HG.out).1 hl).len
        rw [this]; exact HFI.out.fits
      have HAL := hid hal
      clear hex hallp hal
      rcases HP2.out with ⟨h0, _⟩ | ⟨_, h0, _⟩ | ⟨_, A1, c1, a, hfirst, rfl, hA1⟩
      · exact absurd HC.out h0
      · exact absurd HX.out h0
      have HFST := hid hfirst
      have HA1 := hid hA1
      have HF0 : Hid (b.all[0]'HALLP.out = a) := hid (Board.all_first HG.out hfirst HALLP.out)
      have halen : a.length ≤ 70 := by rw [hfirst.is.len]; exact n3
      clear HP2 hfirst hA1
      go_wp2_with fail
      refine (everyChance_any b Af As At cf cs ct w2 HS.out (hB0.out.kept (Kept.of_below HB2.out))).mono ?_
      rintro e w3 ⟨hb3, ⟨h0, _⟩ | ⟨_, h0, _⟩ | ⟨_, _, A2, c2, us2, rfl, hown2, hli2⟩⟩
      · exact absurd HC.out h0
      · exact absurd HX.out h0
      have HCF := hid (hli2.fits hown2)
      have HA1_3 := hid (HA1.out.kept (Kept.of_below hb3))
      clear hown2 hli2 HA1
      have HB3 := hid (HB2.out.trans (hb3.mono HB2.out.size))
      have k30 := (Kept.of_below hb3) _ _ m0
      have k31 := (Kept.of_below hb3) _ _ m1
      have k32 := (Kept.of_below hb3) _ _ m2
      clear hb3 m0 m1 m2
      go_wp2_with fail
      refine (must_any b Af As At cf cs ct w3 HS.out (hB0.out.kept (Kept.of_below HB3.out))).mono ?_
      rintro e w4 ⟨hb4, ⟨h0, _⟩ | ⟨_, h0, _⟩ | ⟨_, _, A3, c3, rfl, hM⟩⟩
      · exact absurd HC.out h0
      · exact absurd HX.out h0
      have HM := hid hM
      have HCF4 := hid (HCF.out.kept (Kept.of_below hb4))
      have HA1_4 := hid (HA1_3.out.kept (Kept.of_below hb4))
      clear hM HCF HA1_3
      have HB4 := hid (HB3.out.trans (hb4.mono HB3.out.size))
      have k40 := (Kept.of_below hb4) _ _ k30
      have k41 := (Kept.of_below hb4) _ _ k31
      have k42 := (Kept.of_below hb4) _ _ k32
      clear hb4 k30 k31 k32
      have hload := load_of_any b Af As At cf cs ct w4 HS.out (hB0.out.kept (Kept.of_below HB4.out)) s
      have HLOAD := hid hload
      clear hload
      have hask : (s < 0 ∧ askOf b 0 s true false = 1) ∨ (¬ s < 0 ∧ (b.slots.length : Int) ≤ s ∧ askOf b 0 s true false = 1) ∨ (¬ s < 0 ∧ ¬ (b.slots.length : Int) ≤ s ∧ askOf b 0 s true false = 0) := by
        by_cases g1 : s < 0
        · exact .inl ⟨g1, askOf_out HC.out (.inl g1)⟩
        · by_cases g2 : (b.slots.length : Int) ≤ s
          · exact .inr (.inl ⟨g1, g2, askOf_out HC.out (.inr g2)⟩)
          · exact .inr (.inr ⟨g1, g2, askOf_mk HC.out (by omega) (by omega)⟩)
      have HASK := hid hask
      clear hask
      have hcheck := fun (w : World) (hB : BoardAt w Af As At b) => refCheck_t Af As At cf cs ct b w HS.out hB HC.out
      have HCH := hid hcheck
      clear hcheck
      have hallof := fun (w : World) (hB : BoardAt w Af As At b) => allOf_any b Af As At cf cs ct w HG.out h6 h12 HFEW.out.1.2.2.2 hB
      have HAO := hid hallof
      clear hallof
      have hmlen : b.must.length = b.finds.length := by simp [Board.must, Board.chances, chancesTo_length]
      have hclen : b.chances.length = b.finds.length := by simp [Board.chances, chancesTo_length]
      have d2 : ((b.must.length : Int) != b.finds.length) = false := by rw [bne_eq_false_iff_eq]; omega
      have hgiven : ((List.range b.finds.length).map fun i => givenTo b.all i b.slots.length) = b.chances := by
        unfold Board.chances chancesTo
        exact List.map_congr_left fun i _ => given_chances HG.out
      have HMLEN := hid hmlen
      have HCLEN := hid hclen
      have HGIV := hid hgiven
      have hml60 : b.must.length ≤ 70 := by omega
      have hcl60 : b.chances.length ≤ 70 := by omega
      clear hmlen hclen hgiven
      rcases HASK.out with ⟨g1, ga⟩ | ⟨g1, g2, ga⟩ | ⟨g1, g2, ga⟩
      · have GA := hid ga
        clear HASK ga
        go_wp2_with fail
        refine HLOAD.out.mono ?_
        rintro e w5 ⟨hb5, ⟨_, rfl⟩ | ⟨h0, _⟩ | ⟨h0, _⟩⟩
        rotate_left
        · exact absurd (GA.out.symm.trans h0) (by decide)
        · exact absurd (GA.out.symm.trans h0) (by decide)
        rw [GA.out]
        have HCF5 := hid (HCF4.out.kept (Kept.of_below hb5))
        have HA1_5 := hid (HA1_4.out.kept (Kept.of_below hb5))
        have HM5 := hid (HM.out.kept (Kept.of_below hb5))
        clear HLOAD HCF4 HA1_4 HM
        have HB5 := hid (HB4.out.trans (hb5.mono HB4.out.size))
        have k50 := (Kept.of_below hb5) _ _ k40
        have k51 := (Kept.of_below hb5) _ _ k41
        have k52 := (Kept.of_below hb5) _ _ k42
        clear hb5 k40 k41 k42
        go_wp2_with fail
        refine (HCH.out w5 (hB0.out.kept (Kept.of_below HB5.out))).mono ?_
        rintro e w6 ⟨rfl, hb6⟩
        have HCF6 := hid (HCF5.out.kept (Kept.of_below hb6))
        have HA1_6 := hid (HA1_5.out.kept (Kept.of_below hb6))
        have HM6 := hid (HM5.out.kept (Kept.of_below hb6))
        clear HCF5 HA1_5 HM5
        have HB6 := hid (HB5.out.trans (hb6.mono HB5.out.size))
        have k60 := (Kept.of_below hb6) _ _ k50
        have k61 := (Kept.of_below hb6) _ _ k51
        have k62 := (Kept.of_below hb6) _ _ k52
        clear hb6 k50 k51 k52
        go_wp2_with fail
        refine (HAO.out w6 (hB0.out.kept (Kept.of_below HB6.out))).mono ?_
        rintro e w7 ⟨hb7, AL, cL, us, rfl, hown, hli⟩
        have HALF := hid (hli.fits hown)
        have HCF7 := hid (HCF6.out.kept (Kept.of_below hb7))
        have HA1_7 := hid (HA1_6.out.kept (Kept.of_below hb7))
        have HM7 := hid (HM6.out.kept (Kept.of_below hb7))
        clear HCF6 HA1_6 HM6
        have HB7 := hid (HB6.out.trans (hb7.mono HB6.out.size))
        have k70 := (Kept.of_below hb7) _ _ k60
        have k71 := (Kept.of_below hb7) _ _ k61
        have k72 := (Kept.of_below hb7) _ _ k62
        clear hb7 k60 k61 k62
        clear hown hli HAO HCH
        go_wp2_with fail
        refine (refChances_any b.finds.length b.slots.length b.fits.length b.all Af As At AL cf cs ct cL w7 halln (by omega) (by omega) HAL.out HALF.out).mono ?_
        rintro e w8 ⟨hb8, A4, c4, rfl, hF4⟩
        rw [HGIV.out] at hF4
        have HF4 := hid hF4
        have HCF8 := hid (HCF7.out.kept (Kept.of_below hb8))
        have HA1_8 := hid (HA1_7.out.kept (Kept.of_below hb8))
        have HM8 := hid (HM7.out.kept (Kept.of_below hb8))
        have HALF8 := hid (HALF.out.kept (Kept.of_below hb8))
        clear HCF7 HA1_7 HM7 hF4 HALF
        have HB8 := hid (HB7.out.trans (hb8.mono HB7.out.size))
        have k80 := (Kept.of_below hb8) _ _ k70
        have k81 := (Kept.of_below hb8) _ _ k71
        have k82 := (Kept.of_below hb8) _ _ k72
        clear hb8 k70 k71 k72
        obtain ⟨lb, loff, rfl, hlc⟩ := HALF8.out HALLP.out
        obtain ⟨A5, c5, f1, f2⟩ := hlc 0 HALLP.out
        rw [HF0.out] at f1 f2
        rw [Nat.add_zero] at f1
        have F2 := hid f2
        have hn0 : (0 : Int) < b.all.length := by have := HALLP.out; omega
        have hn1 : 0 < b.all.length := HALLP.out
        clear hlc f2
        go_wp2_with fail
        refine (same_t A1 A5 c1 c5 a a w8 (by omega) (by omega) HA1_8.out F2.out (decide_eq_true rfl)).mono ?_
        rintro e w9 ⟨rfl, n9, rfl⟩
        have hb9 : Below w8.heap.size w8 (w8.drewN n9) := Below.drewN' (Below.refl _ _) n9
        generalize w8.drewN n9 = w9 at hb9 ⊢
        have HCF9 := hid (HCF8.out.kept (Kept.of_below hb9))
        have HM9 := hid (HM8.out.kept (Kept.of_below hb9))
        have HF9 := hid (HF4.out.kept (Kept.of_below hb9))
        have HALF9 := hid (HALF8.out.kept (Kept.of_below hb9))
        clear HCF8 HM8 HF4 HA1_8 f1 F2 HALF8
        have HB9 := hid (HB8.out.trans (hb9.mono HB8.out.size))
        have k90 := (Kept.of_below hb9) _ _ k80
        have k91 := (Kept.of_below hb9) _ _ k81
        have k92 := (Kept.of_below hb9) _ _ k82
        clear hb9 k80 k81 k82
        have hsl := sameLists_any A2 A4 c2 c4 b.chances b.chances w9 (by omega) (by omega) (fun l hl => ?_) (fun l hl => ?_) HCF9.out HF9.out
        rotate_left 1
        · exact chances_small HFI.out hl
        · exact chances_small HFI.out hl
        rw [decide_eq_true rfl] at hsl
        have hsl2 : Calls Try.prog 23 #[.slice A2 b.chances.length c2, .slice A4 b.finds.length c4] w9 fun e w' => e = .returned (.bool true) ∧ Drew w9 w' := by rw [← HCLEN.out]; exact hsl
        have HSL := hid hsl2
        clear hsl hsl2
        go_wp2_with fail
        refine HSL.out.mono ?_
        rintro e w10 ⟨rfl, n10, rfl⟩
        have hb10 : Below w9.heap.size w9 (w9.drewN n10) := Below.drewN' (Below.refl _ _) n10
        generalize w9.drewN n10 = w10 at hb10 ⊢
        have HM10 := hid (HM9.out.kept (Kept.of_below hb10))
        have HF10 := hid (HF9.out.kept (Kept.of_below hb10))
        have HALF10 := hid (HALF9.out.kept (Kept.of_below hb10))
        clear HCF9 HM9 HF9 HALF9 HSL
        have HB10 := hid (HB9.out.trans (hb10.mono HB9.out.size))
        have k100 := (Kept.of_below hb10) _ _ k90
        have k101 := (Kept.of_below hb10) _ _ k91
        have k102 := (Kept.of_below hb10) _ _ k92
        clear hb10 k90 k91 k92
        go_wp2_with fail
        go_loopg [19] (b.must.length) (fun g x wr => wr = w10 ∧ ∃ k : Nat, k ≤ b.must.length ∧ g = b.must.length - k ∧ x = .int .i64 k)
        case atStart => exact ⟨rfl, 0, by omega, by omega, rfl⟩
        case round =>
          obtain ⟨rfl, k, hk, hgk, rfl⟩ := hrel
          by_cases hlt : k < b.must.length
          · have hkc : k < b.chances.length := by have := HMLEN.out; have := HCLEN.out; omega
            obtain ⟨mb, moff, rfl, hmc⟩ := HM10.out (by omega)
            have hm1 := hmc k hlt
            rw [must_of hlt] at hm1
            obtain ⟨fb, foff, rfl, hfc⟩ := HF10.out (by omega)
            obtain ⟨Aj, cj, f1, f2⟩ := hfc k hkc
            have hcs := chances_small HFI.out (List.getElem_mem hkc)
            rw [chances_of hkc] at f1 f2 hcs
            obtain ⟨L, hL⟩ : ∃ L, chancesOf b.fits (pieces b.slots) k = L := ⟨_, rfl⟩
            rw [hL] at hm1 f1 f2 hcs
            have i0 : (0 : Int) ≤ k := by omega
            have i1 : (k : Int) < b.must.length := by omega
            have i2 : (k : Int) < b.finds.length := by have := HMLEN.out; omega
            clear hmc hfc hL
            by_cases h1 : L.length = 1
            · have d3 : ((L.length : Int) == 1) = true := beq_iff_eq.2 (by omega)
              obtain ⟨ab, aoff, rfl, hac⟩ := f2 (by omega)
              have hl0 : 0 < L.length := by omega
              have f3 := hac 0 hl0
              rw [Nat.add_zero] at f3
              have hlo : lone L = L[0]'hl0 := lone_one h1
              rw [hlo] at hm1
              have H1 := hid h1
              clear hac h1 hlo
              go_wp2_with fail
              go_roundg (b.must.length - (k + 1))
              case measure => omega
              case rel => exact ⟨rfl, k + 1, by omega, rfl, by go_num⟩
            · have d3 : ((L.length : Int) == 1) = false := beq_eq_false_iff_ne.2 (by omega)
              rw [lone_not h1] at hm1
              have H1 := hid h1
              clear h1 f2
              go_wp2_with fail
              go_roundg (b.must.length - (k + 1))
              case measure => omega
              case rel => exact ⟨rfl, k + 1, by omega, rfl, by go_num⟩
          · obtain rfl : k = b.must.length := by omega
            clear hlt hgk hk
            go_wp2_with fail
            refine (matched_true wr).mono ?_
            rintro e w11 ⟨rfl, hb11⟩
            have HB11 := hid (HB10.out.trans (hb11.mono HB10.out.size))
            clear hb11
            go_wp2_with fail
            go_ret
            exact ⟨ret_true (by first | rfl | (simp; done) | (simp; omega)), HB11.out⟩
      · have GA := hid ga
        clear HASK ga
        go_wp2_with fail
        refine HLOAD.out.mono ?_
        rintro e w5 ⟨hb5, ⟨_, rfl⟩ | ⟨h0, _⟩ | ⟨h0, _⟩⟩
        rotate_left
        · exact absurd (GA.out.symm.trans h0) (by decide)
        · exact absurd (GA.out.symm.trans h0) (by decide)
        rw [GA.out]
        have HCF5 := hid (HCF4.out.kept (Kept.of_below hb5))
        have HA1_5 := hid (HA1_4.out.kept (Kept.of_below hb5))
        have HM5 := hid (HM.out.kept (Kept.of_below hb5))
        clear HLOAD HCF4 HA1_4 HM
        have HB5 := hid (HB4.out.trans (hb5.mono HB4.out.size))
        have k50 := (Kept.of_below hb5) _ _ k40
        have k51 := (Kept.of_below hb5) _ _ k41
        have k52 := (Kept.of_below hb5) _ _ k42
        clear hb5 k40 k41 k42
        go_wp2_with fail
        refine (HCH.out w5 (hB0.out.kept (Kept.of_below HB5.out))).mono ?_
        rintro e w6 ⟨rfl, hb6⟩
        have HCF6 := hid (HCF5.out.kept (Kept.of_below hb6))
        have HA1_6 := hid (HA1_5.out.kept (Kept.of_below hb6))
        have HM6 := hid (HM5.out.kept (Kept.of_below hb6))
        clear HCF5 HA1_5 HM5
        have HB6 := hid (HB5.out.trans (hb6.mono HB5.out.size))
        have k60 := (Kept.of_below hb6) _ _ k50
        have k61 := (Kept.of_below hb6) _ _ k51
        have k62 := (Kept.of_below hb6) _ _ k52
        clear hb6 k50 k51 k52
        go_wp2_with fail
        refine (HAO.out w6 (hB0.out.kept (Kept.of_below HB6.out))).mono ?_
        rintro e w7 ⟨hb7, AL, cL, us, rfl, hown, hli⟩
        have HALF := hid (hli.fits hown)
        have HCF7 := hid (HCF6.out.kept (Kept.of_below hb7))
        have HA1_7 := hid (HA1_6.out.kept (Kept.of_below hb7))
        have HM7 := hid (HM6.out.kept (Kept.of_below hb7))
        clear HCF6 HA1_6 HM6
        have HB7 := hid (HB6.out.trans (hb7.mono HB6.out.size))
        have k70 := (Kept.of_below hb7) _ _ k60
        have k71 := (Kept.of_below hb7) _ _ k61
        have k72 := (Kept.of_below hb7) _ _ k62
        clear hb7 k60 k61 k62
        clear hown hli HAO HCH
        go_wp2_with fail
        refine (refChances_any b.finds.length b.slots.length b.fits.length b.all Af As At AL cf cs ct cL w7 halln (by omega) (by omega) HAL.out HALF.out).mono ?_
        rintro e w8 ⟨hb8, A4, c4, rfl, hF4⟩
        rw [HGIV.out] at hF4
        have HF4 := hid hF4
        have HCF8 := hid (HCF7.out.kept (Kept.of_below hb8))
        have HA1_8 := hid (HA1_7.out.kept (Kept.of_below hb8))
        have HM8 := hid (HM7.out.kept (Kept.of_below hb8))
        have HALF8 := hid (HALF.out.kept (Kept.of_below hb8))
        clear HCF7 HA1_7 HM7 hF4 HALF
        have HB8 := hid (HB7.out.trans (hb8.mono HB7.out.size))
        have k80 := (Kept.of_below hb8) _ _ k70
        have k81 := (Kept.of_below hb8) _ _ k71
        have k82 := (Kept.of_below hb8) _ _ k72
        clear hb8 k70 k71 k72
        obtain ⟨lb, loff, rfl, hlc⟩ := HALF8.out HALLP.out
        obtain ⟨A5, c5, f1, f2⟩ := hlc 0 HALLP.out
        rw [HF0.out] at f1 f2
        rw [Nat.add_zero] at f1
        have F2 := hid f2
        have hn0 : (0 : Int) < b.all.length := by have := HALLP.out; omega
        have hn1 : 0 < b.all.length := HALLP.out
        clear hlc f2
        go_wp2_with fail
        refine (same_t A1 A5 c1 c5 a a w8 (by omega) (by omega) HA1_8.out F2.out (decide_eq_true rfl)).mono ?_
        rintro e w9 ⟨rfl, n9, rfl⟩
        have hb9 : Below w8.heap.size w8 (w8.drewN n9) := Below.drewN' (Below.refl _ _) n9
        generalize w8.drewN n9 = w9 at hb9 ⊢
        have HCF9 := hid (HCF8.out.kept (Kept.of_below hb9))
        have HM9 := hid (HM8.out.kept (Kept.of_below hb9))
        have HF9 := hid (HF4.out.kept (Kept.of_below hb9))
        have HALF9 := hid (HALF8.out.kept (Kept.of_below hb9))
        clear HCF8 HM8 HF4 HA1_8 f1 F2 HALF8
        have HB9 := hid (HB8.out.trans (hb9.mono HB8.out.size))
        have k90 := (Kept.of_below hb9) _ _ k80
        have k91 := (Kept.of_below hb9) _ _ k81
        have k92 := (Kept.of_below hb9) _ _ k82
        clear hb9 k80 k81 k82
        have hsl := sameLists_any A2 A4 c2 c4 b.chances b.chances w9 (by omega) (by omega) (fun l hl => ?_) (fun l hl => ?_) HCF9.out HF9.out
        rotate_left 1
        · exact chances_small HFI.out hl
        · exact chances_small HFI.out hl
        rw [decide_eq_true rfl] at hsl
        have hsl2 : Calls Try.prog 23 #[.slice A2 b.chances.length c2, .slice A4 b.finds.length c4] w9 fun e w' => e = .returned (.bool true) ∧ Drew w9 w' := by rw [← HCLEN.out]; exact hsl
        have HSL := hid hsl2
        clear hsl hsl2
        go_wp2_with fail
        refine HSL.out.mono ?_
        rintro e w10 ⟨rfl, n10, rfl⟩
        have hb10 : Below w9.heap.size w9 (w9.drewN n10) := Below.drewN' (Below.refl _ _) n10
        generalize w9.drewN n10 = w10 at hb10 ⊢
        have HM10 := hid (HM9.out.kept (Kept.of_below hb10))
        have HF10 := hid (HF9.out.kept (Kept.of_below hb10))
        have HALF10 := hid (HALF9.out.kept (Kept.of_below hb10))
        clear HCF9 HM9 HF9 HALF9 HSL
        have HB10 := hid (HB9.out.trans (hb10.mono HB9.out.size))
        have k100 := (Kept.of_below hb10) _ _ k90
        have k101 := (Kept.of_below hb10) _ _ k91
        have k102 := (Kept.of_below hb10) _ _ k92
        clear hb10 k90 k91 k92
        go_wp2_with fail
        go_loopg [19] (b.must.length) (fun g x wr => wr = w10 ∧ ∃ k : Nat, k ≤ b.must.length ∧ g = b.must.length - k ∧ x = .int .i64 k)
        case atStart => exact ⟨rfl, 0, by omega, by omega, rfl⟩
        case round =>
          obtain ⟨rfl, k, hk, hgk, rfl⟩ := hrel
          by_cases hlt : k < b.must.length
          · have hkc : k < b.chances.length := by have := HMLEN.out; have := HCLEN.out; omega
            obtain ⟨mb, moff, rfl, hmc⟩ := HM10.out (by omega)
            have hm1 := hmc k hlt
            rw [must_of hlt] at hm1
            obtain ⟨fb, foff, rfl, hfc⟩ := HF10.out (by omega)
            obtain ⟨Aj, cj, f1, f2⟩ := hfc k hkc
            have hcs := chances_small HFI.out (List.getElem_mem hkc)
            rw [chances_of hkc] at f1 f2 hcs
            obtain ⟨L, hL⟩ : ∃ L, chancesOf b.fits (pieces b.slots) k = L := ⟨_, rfl⟩
            rw [hL] at hm1 f1 f2 hcs
            have i0 : (0 : Int) ≤ k := by omega
            have i1 : (k : Int) < b.must.length := by omega
            have i2 : (k : Int) < b.finds.length := by have := HMLEN.out; omega
            clear hmc hfc hL
            by_cases h1 : L.length = 1
            · have d3 : ((L.length : Int) == 1) = true := beq_iff_eq.2 (by omega)
              obtain ⟨ab, aoff, rfl, hac⟩ := f2 (by omega)
              have hl0 : 0 < L.length := by omega
              have f3 := hac 0 hl0
              rw [Nat.add_zero] at f3
              have hlo : lone L = L[0]'hl0 := lone_one h1
              rw [hlo] at hm1
              have H1 := hid h1
              clear hac h1 hlo
              go_wp2_with fail
              go_roundg (b.must.length - (k + 1))
              case measure => omega
              case rel => exact ⟨rfl, k + 1, by omega, rfl, by go_num⟩
            · have d3 : ((L.length : Int) == 1) = false := beq_eq_false_iff_ne.2 (by omega)
              rw [lone_not h1] at hm1
              have H1 := hid h1
              clear h1 f2
              go_wp2_with fail
              go_roundg (b.must.length - (k + 1))
              case measure => omega
              case rel => exact ⟨rfl, k + 1, by omega, rfl, by go_num⟩
          · obtain rfl : k = b.must.length := by omega
            clear hlt hgk hk
            go_wp2_with fail
            refine (matched_true wr).mono ?_
            rintro e w11 ⟨rfl, hb11⟩
            have HB11 := hid (HB10.out.trans (hb11.mono HB10.out.size))
            clear hb11
            go_wp2_with fail
            go_ret
            exact ⟨ret_true (by first | rfl | (simp; done) | (simp; omega)), HB11.out⟩
      · have GA := hid ga
        clear HASK ga
        go_wp2_with fail
        refine HLOAD.out.mono ?_
        rintro e w5 ⟨hb5, ⟨h0, _⟩ | ⟨_, h0, _⟩ | ⟨_, _, low, high, hlow, rfl⟩⟩
        · exact absurd GA.out h0
        · exact absurd HX.out h0
        have HLOW := hid hlow
        clear hlow
        have HCF5 := hid (HCF4.out.kept (Kept.of_below hb5))
        have HA1_5 := hid (HA1_4.out.kept (Kept.of_below hb5))
        have HM5 := hid (HM.out.kept (Kept.of_below hb5))
        clear HLOAD HCF4 HA1_4 HM
        have HB5 := hid (HB4.out.trans (hb5.mono HB4.out.size))
        have k50 := (Kept.of_below hb5) _ _ k40
        have k51 := (Kept.of_below hb5) _ _ k41
        have k52 := (Kept.of_below hb5) _ _ k42
        clear hb5 k40 k41 k42
        go_wp2_with fail
        refine (HCH.out w5 (hB0.out.kept (Kept.of_below HB5.out))).mono ?_
        rintro e w6 ⟨rfl, hb6⟩
        have HCF6 := hid (HCF5.out.kept (Kept.of_below hb6))
        have HA1_6 := hid (HA1_5.out.kept (Kept.of_below hb6))
        have HM6 := hid (HM5.out.kept (Kept.of_below hb6))
        clear HCF5 HA1_5 HM5
        have HB6 := hid (HB5.out.trans (hb6.mono HB5.out.size))
        have k60 := (Kept.of_below hb6) _ _ k50
        have k61 := (Kept.of_below hb6) _ _ k51
        have k62 := (Kept.of_below hb6) _ _ k52
        clear hb6 k50 k51 k52
        go_wp2_with fail
        refine (HAO.out w6 (hB0.out.kept (Kept.of_below HB6.out))).mono ?_
        rintro e w7 ⟨hb7, AL, cL, us, rfl, hown, hli⟩
        have HALF := hid (hli.fits hown)
        have HCF7 := hid (HCF6.out.kept (Kept.of_below hb7))
        have HA1_7 := hid (HA1_6.out.kept (Kept.of_below hb7))
        have HM7 := hid (HM6.out.kept (Kept.of_below hb7))
        clear HCF6 HA1_6 HM6
        have HB7 := hid (HB6.out.trans (hb7.mono HB6.out.size))
        have k70 := (Kept.of_below hb7) _ _ k60
        have k71 := (Kept.of_below hb7) _ _ k61
        have k72 := (Kept.of_below hb7) _ _ k62
        clear hb7 k60 k61 k62
        clear hown hli HAO HCH
        go_wp2_with fail
        refine (refChances_any b.finds.length b.slots.length b.fits.length b.all Af As At AL cf cs ct cL w7 halln (by omega) (by omega) HAL.out HALF.out).mono ?_
        rintro e w8 ⟨hb8, A4, c4, rfl, hF4⟩
        rw [HGIV.out] at hF4
        have HF4 := hid hF4
        have HCF8 := hid (HCF7.out.kept (Kept.of_below hb8))
        have HA1_8 := hid (HA1_7.out.kept (Kept.of_below hb8))
        have HM8 := hid (HM7.out.kept (Kept.of_below hb8))
        have HALF8 := hid (HALF.out.kept (Kept.of_below hb8))
        clear HCF7 HA1_7 HM7 hF4 HALF
        have HB8 := hid (HB7.out.trans (hb8.mono HB7.out.size))
        have k80 := (Kept.of_below hb8) _ _ k70
        have k81 := (Kept.of_below hb8) _ _ k71
        have k82 := (Kept.of_below hb8) _ _ k72
        clear hb8 k70 k71 k72
        obtain ⟨lb, loff, rfl, hlc⟩ := HALF8.out HALLP.out
        obtain ⟨A5, c5, f1, f2⟩ := hlc 0 HALLP.out
        rw [HF0.out] at f1 f2
        rw [Nat.add_zero] at f1
        have F2 := hid f2
        have hn0 : (0 : Int) < b.all.length := by have := HALLP.out; omega
        have hn1 : 0 < b.all.length := HALLP.out
        clear hlc f2
        go_wp2_with fail
        refine (same_t A1 A5 c1 c5 a a w8 (by omega) (by omega) HA1_8.out F2.out (decide_eq_true rfl)).mono ?_
        rintro e w9 ⟨rfl, n9, rfl⟩
        have hb9 : Below w8.heap.size w8 (w8.drewN n9) := Below.drewN' (Below.refl _ _) n9
        generalize w8.drewN n9 = w9 at hb9 ⊢
        have HCF9 := hid (HCF8.out.kept (Kept.of_below hb9))
        have HM9 := hid (HM8.out.kept (Kept.of_below hb9))
        have HF9 := hid (HF4.out.kept (Kept.of_below hb9))
        have HALF9 := hid (HALF8.out.kept (Kept.of_below hb9))
        clear HCF8 HM8 HF4 HA1_8 f1 F2 HALF8
        have HB9 := hid (HB8.out.trans (hb9.mono HB8.out.size))
        have k90 := (Kept.of_below hb9) _ _ k80
        have k91 := (Kept.of_below hb9) _ _ k81
        have k92 := (Kept.of_below hb9) _ _ k82
        clear hb9 k80 k81 k82
        have hsl := sameLists_any A2 A4 c2 c4 b.chances b.chances w9 (by omega) (by omega) (fun l hl => ?_) (fun l hl => ?_) HCF9.out HF9.out
        rotate_left 1
        · exact chances_small HFI.out hl
        · exact chances_small HFI.out hl
        rw [decide_eq_true rfl] at hsl
        have hsl2 : Calls Try.prog 23 #[.slice A2 b.chances.length c2, .slice A4 b.finds.length c4] w9 fun e w' => e = .returned (.bool true) ∧ Drew w9 w' := by rw [← HCLEN.out]; exact hsl
        have HSL := hid hsl2
        clear hsl hsl2
        go_wp2_with fail
        refine HSL.out.mono ?_
        rintro e w10 ⟨rfl, n10, rfl⟩
        have hb10 : Below w9.heap.size w9 (w9.drewN n10) := Below.drewN' (Below.refl _ _) n10
        generalize w9.drewN n10 = w10 at hb10 ⊢
        have HM10 := hid (HM9.out.kept (Kept.of_below hb10))
        have HF10 := hid (HF9.out.kept (Kept.of_below hb10))
        have HALF10 := hid (HALF9.out.kept (Kept.of_below hb10))
        clear HCF9 HM9 HF9 HALF9 HSL
        have HB10 := hid (HB9.out.trans (hb10.mono HB9.out.size))
        have k100 := (Kept.of_below hb10) _ _ k90
        have k101 := (Kept.of_below hb10) _ _ k91
        have k102 := (Kept.of_below hb10) _ _ k92
        clear hb10 k90 k91 k92
        go_wp2_with fail
        go_loopg [19] (b.must.length) (fun g x wr => wr = w10 ∧ ∃ k : Nat, k ≤ b.must.length ∧ g = b.must.length - k ∧ x = .int .i64 k)
        case atStart => exact ⟨rfl, 0, by omega, by omega, rfl⟩
        case round =>
          obtain ⟨rfl, k, hk, hgk, rfl⟩ := hrel
          by_cases hlt : k < b.must.length
          · have hkc : k < b.chances.length := by have := HMLEN.out; have := HCLEN.out; omega
            obtain ⟨mb, moff, rfl, hmc⟩ := HM10.out (by omega)
            have hm1 := hmc k hlt
            rw [must_of hlt] at hm1
            obtain ⟨fb, foff, rfl, hfc⟩ := HF10.out (by omega)
            obtain ⟨Aj, cj, f1, f2⟩ := hfc k hkc
            have hcs := chances_small HFI.out (List.getElem_mem hkc)
            rw [chances_of hkc] at f1 f2 hcs
            obtain ⟨L, hL⟩ : ∃ L, chancesOf b.fits (pieces b.slots) k = L := ⟨_, rfl⟩
            rw [hL] at hm1 f1 f2 hcs
            have i0 : (0 : Int) ≤ k := by omega
            have i1 : (k : Int) < b.must.length := by omega
            have i2 : (k : Int) < b.finds.length := by have := HMLEN.out; omega
            clear hmc hfc hL
            by_cases h1 : L.length = 1
            · have d3 : ((L.length : Int) == 1) = true := beq_iff_eq.2 (by omega)
              obtain ⟨ab, aoff, rfl, hac⟩ := f2 (by omega)
              have hl0 : 0 < L.length := by omega
              have f3 := hac 0 hl0
              rw [Nat.add_zero] at f3
              have hlo : lone L = L[0]'hl0 := lone_one h1
              rw [hlo] at hm1
              have H1 := hid h1
              clear hac h1 hlo
              go_wp2_with fail
              go_roundg (b.must.length - (k + 1))
              case measure => omega
              case rel => exact ⟨rfl, k + 1, by omega, rfl, by go_num⟩
            · have d3 : ((L.length : Int) == 1) = false := beq_eq_false_iff_ne.2 (by omega)
              rw [lone_not h1] at hm1
              have H1 := hid h1
              clear h1 f2
              go_wp2_with fail
              go_roundg (b.must.length - (k + 1))
              case measure => omega
              case rel => exact ⟨rfl, k + 1, by omega, rfl, by go_num⟩
          · obtain rfl : k = b.must.length := by omega
            clear hlt hgk hk
            go_wp2_with fail
            refine (refLoad_any b.all (some ⟨lb, loff, none⟩) cL s wr halln (fun l hl => by rw [HAL.out l hl]; omega) HALF10.out).mono ?_
            rintro e w11 ⟨rfl, lo, hi, hspan, rfl⟩
            obtain ⟨rfl, rfl⟩ := load_same HG.out HLOW.out hspan
            clear hspan HLOW
            go_wp2_with fail
            refine (matched_true wr).mono ?_
            rintro e w12 ⟨rfl, hb12⟩
            have HB12 := hid (HB10.out.trans (hb12.mono HB10.out.size))
            clear hb12
            go_wp2_with fail
            go_ret
            exact ⟨ret_true (by first | rfl | (simp; done) | (simp; omega)), HB12.out⟩
end Go.Proofs.Ytpmdjbjnihhjeaa
