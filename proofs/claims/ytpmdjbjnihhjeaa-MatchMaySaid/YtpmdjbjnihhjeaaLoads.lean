/- The least and the greatest number of finds that an assignment gives a slot; Load. -/
import Derived.Test.YtpmdjbjnihhjeaaRefuse
namespace Go.Proofs.Ytpmdjbjnihhjeaa
open Go.RowKit

/-- How many finds fit a slot. -/
def fitCount (fits : List (List Int)) (s : Int) : Int := ((fits.filter fun l => decide (s ∈ l)).length : Int)
theorem fitCount_sum (fits : List (List Int)) (s : Int) : fitCount fits s = sumTo (fun i => if s ∈ fitOf fits i then 1 else 0) fits.length := by
  unfold fitCount
  induction fits with
  | nil => rfl
  | cons x xs ih =>
    rw [List.length_cons, sumTo_shift]
    have h1 : ∀ i, fitOf (x :: xs) (i + 1) = fitOf xs i := fun i => by simp [fitOf]
    have h0 : fitOf (x :: xs) 0 = x := rfl
    simp only [h1, h0]
    rw [← ih, List.filter_cons]
    by_cases hx : s ∈ x
    · simp [hx]; omega
    · simp [hx]

section
variable {fits : List (List Int)} {room a : List Int} {s : Int}
theorem load_fit (ha : Asg fits room a) (hs : 0 ≤ s) : loadOf a s ≤ fitCount fits s := by
  rw [loadOf_sum, fitCount_sum, ha.len]
  refine sumTo_le fun i _ => ?_
  by_cases h : hasOf a i = s
  · rw [if_pos h]
    have hne : fitOf fits i ≠ [] := fun e => by have := ha.nobody i e; omega
    have := ha.fit i hne
    rw [h] at this
    rw [if_pos this]
    exact Int.le_refl _
  · rw [if_neg h]; split <;> omega
/-- Where a slot has less than it can, another find can come to it. -/
theorem load_more {s : Int} (ha : Asg fits room a) (h2 : loadOf a s < fitCount fits s) (h3 : loadOf a s < roomOf room s) : ∃ c, Asg fits room c ∧ loadOf c s = loadOf a s + 1 := by
  have hex : ∃ i, i < fits.length ∧ s ∈ fitOf fits i ∧ hasOf a i ≠ s := by
    refine Classical.byContradiction fun hno => ?_
    rw [loadOf_sum, fitCount_sum, ha.len] at h2
    have : sumTo (fun i => if s ∈ fitOf fits i then (1 : Int) else 0) fits.length ≤ sumTo (fun i => if hasOf a i = s then 1 else 0) fits.length := by
      refine sumTo_le fun i hi => ?_
      by_cases h : s ∈ fitOf fits i
      · rw [if_pos h, if_pos (Classical.byContradiction fun k => hno ⟨i, hi, h, k⟩)]
        exact Int.le_refl _
      · rw [if_neg h]; split <;> omega
    omega
  obtain ⟨i, hi, hm, hne⟩ := hex
  have hl : i < a.length := by rw [ha.len]; exact hi
  have hfn : fitOf fits i ≠ [] := fun e => by rw [e] at hm; simp at hm
  refine ⟨a.set i s, ⟨by simp [ha.len], fun g hg => ?_, fun g hg => ?_, fun x h0 hx => ?_⟩, ?_⟩
  · have e : g ≠ i := fun e => hfn (e ▸ hg)
    rw [hasOf_set _ hl, if_neg e]; exact ha.nobody g hg
  · rw [hasOf_set _ hl]
    split
    · rename_i e; rw [e]; exact hm
    · exact ha.fit g hg
  · rw [loadOf_set _ _ hl]
    have := ha.loads x h0 hx
    by_cases e : s = x
    · subst e; rw [if_neg hne, if_pos rfl]; omega
    · rw [if_neg e]; split <;> omega
  · rw [loadOf_set _ _ hl, if_neg hne, if_pos rfl]; omega
theorem load_reach (hs : 0 ≤ s) (h1 : s < room.length) : ∀ (n : Nat) (a : List Int), Asg fits room a → (min (fitCount fits s) (roomOf room s) - loadOf a s).toNat ≤ n → ∃ c, Asg fits room c ∧ loadOf c s = min (fitCount fits s) (roomOf room s)
  | 0, a, ha, hn => ⟨a, ha, by have := load_fit ha hs; have := ha.loads s hs h1; omega⟩
  | n + 1, a, ha, hn => by
    by_cases h : loadOf a s < min (fitCount fits s) (roomOf room s)
    · obtain ⟨c, hc, he⟩ := load_more (s := s) ha (by omega) (by omega)
      exact load_reach hs h1 n c hc (by omega)
    · exact ⟨a, ha, by have := load_fit ha hs; have := ha.loads s hs h1; omega⟩
/-- An assignment with less room is one. -/
theorem Asg.lower {v : Nat} {n : Nat} (hn : n < room.length) (h : Asg fits (room.set n v) a) (hv : (v : Int) ≤ roomOf room n) : Asg fits room a ∧ loadOf a n ≤ v := by
  have hroom : ∀ x : Int, 0 ≤ x → roomOf (room.set n v) x = if x = (n : Int) then (v : Int) else roomOf room x := fun x hx => by
    unfold roomOf
    simp only [hx, if_true, List.getD_eq_getElem?_getD, List.getElem?_set]
    by_cases e : x = (n : Int)
    · subst e; simp [hn]
    · rw [if_neg e, if_neg (by omega)]
  refine ⟨⟨h.len, h.nobody, h.fit, fun x h0 h1 => ?_⟩, ?_⟩
  · have := h.loads x h0 (by simpa using h1)
    rw [hroom x h0] at this
    split at this
    · rename_i e; rw [e] at this ⊢; omega
    · exact this
  · have := h.loads n (by omega) (by simp; omega)
    rw [hroom n (by omega), if_pos rfl] at this
    exact this
theorem roomOf_set {n : Nat} {v : Int} (hn : n < room.length) {x : Int} (hx : 0 ≤ x) : roomOf (room.set n v) x = if x = (n : Int) then v else roomOf room x := by
  unfold roomOf
  simp only [hx, if_true, List.getD_eq_getElem?_getD, List.getElem?_set]
  by_cases e : x = (n : Int)
  · subst e; simp [hn]
  · rw [if_neg e, if_neg (by omega)]
/-- Where there is none with so little room, each has more at the slot. -/
theorem Short.raises {n : Nat} {v : Int} {H : List Int} (hw : Inside fits room.length) (hn : n < room.length) (h : Short fits (room.set n v) H) (ha : Asg fits room a) : v + 1 ≤ loadOf a n := by
  refine Classical.byContradiction fun hlt => ?_
  refine Asg.no_short (room := room.set n v) (a := a) (by simpa using hw) ⟨ha.len, ha.nobody, ha.fit, fun x h0 h1 => ?_⟩ h
  rw [roomOf_set hn h0]
  by_cases e : x = (n : Int)
  · rw [if_pos e, e]; omega
  · rw [if_neg e]; exact ha.loads x h0 (by simpa using h1)
end

/-- low is the least, high the greatest number of finds that an assignment gives the slot. -/
structure LoadIs (b : Board) (s low high : Int) : Prop where
  lowIs : ∃ a, b.As a ∧ loadOf a s = low
  highIs : ∃ a, b.As a ∧ loadOf a s = high
  all : ∀ a, b.As a → low ≤ loadOf a s ∧ loadOf a s ≤ high

/-- What Load comes to. -/
def LoadPost (b : Board) (s : Int) (w : World) (e : Ending) (w' : World) : Prop :=
  Below w.heap.size w w' ∧
    ((askOf b 0 s true false ≠ 0 ∧ e = .returned (.tuple #[.int .i64 0, .int .i64 0, .int .i64 (askOf b 0 s true false)])) ∨
     (askOf b 0 s true false = 0 ∧ (¬ ∃ a, b.As a) ∧ e = .returned (.tuple #[.int .i64 0, .int .i64 0, .int .i64 40])) ∨
     (askOf b 0 s true false = 0 ∧ (∃ a, b.As a) ∧ ∃ low high, LoadIs b s low high ∧ e = .returned (.tuple #[.int .i64 low, .int .i64 high, .int .i64 0])))
theorem askOf_slot {b : Board} {f s : Int} (h : askOf b f s true false = 0) : b.check = 0 ∧ 0 ≤ s ∧ s < b.slots.length := by
  have hc := askOf_ok h
  unfold askOf at h
  rw [if_pos hc] at h
  by_cases e : inB s 0 (b.slots.length - 1) = true
  · simp only [inB, Bool.and_eq_true, decide_eq_true_eq] at e
    omega
  · rw [if_pos (by simp [e])] at h
    simp at h
theorem askOf_find {b : Board} {f s : Int} (h : askOf b f s false true = 0) : b.check = 0 ∧ 0 ≤ f ∧ f < b.finds.length := by
  have hc := askOf_ok h
  unfold askOf at h
  rw [if_pos hc] at h
  by_cases e : inB f 0 (b.finds.length - 1) = true
  · simp only [inB, Bool.and_eq_true, decide_eq_true_eq] at e
    omega
  · rw [if_pos (by simp [e])] at h
    simp at h
theorem asked_t (b : Board) (Af As At : Option Addr) (cf cs ct g : Nat) (w : World) (hs : b.small) (hB : BoardAt w Af As At b) (f s : Int) (g0 g1 : Bool) (hg0 : w.cell? ⟨g, 0, none⟩ = some (.bool g0)) (hg1 : w.cell? ⟨g, 1, none⟩ = some (.bool g1)) {k : Int} (hk : askOf b f s g0 g1 = k) :
    Calls Try.prog 58 #[.agg #[.slice Af b.finds.length cf, .slice As b.slots.length cs, .slice At b.fits.length ct], .int .i64 f, .int .i64 s, .slice (some ⟨g, 0, none⟩) 2 2] w fun e w' => e = .returned (.int .i64 k) ∧ Below w.heap.size w w' := by
  subst hk
  exact asked_any b Af As At cf cs ct g w hs hB f s g0 g1 hg0 hg1
theorem fitCount_step {fits : List (List Int)} {s : Int} {k : Nat} (h : k < fits.length) : fitCount (fits.take (k + 1)) s = fitCount (fits.take k) s + if s ∈ fits[k] then 1 else 0 := by
  unfold fitCount
  rw [filter_snoc _ _ _ h]
  by_cases e : s ∈ fits[k] <;> simp [e]
theorem fitCount_le (fits : List (List Int)) (s : Int) (k : Nat) : 0 ≤ fitCount (fits.take k) s ∧ fitCount (fits.take k) s ≤ k := by
  unfold fitCount
  have := filter_take_le (fun l => decide (s ∈ l)) fits k
  omega

set_option maxRecDepth 100000 in
set_option maxHeartbeats 8000000 in
theorem load_of_any (b : Board) (Af As At : Option Addr) (cf cs ct : Nat) (w : World) (hs : b.small) (hB : BoardAt w Af As At b) (s : Int) :
    Calls Try.prog 18 #[.agg #[.slice Af b.finds.length cf, .slice As b.slots.length cs, .slice At b.fits.length ct], .int .i64 s] w (LoadPost b s w) := by
  have hn70 := hs.2.2.1
  have HS := hid hs
  obtain ⟨W, hW, c0, c1, c2, hbW, hz⟩ := box3 w (.slice Af b.finds.length cf) (.slice As b.slots.length cs) (.slice At b.fits.length ct) 26
  have HBW := hid hbW
  have hBW := hid (hB.kept (Kept.of_below hbW))
  have hlW : w.heap.size < W.heap.size := by omega
  clear hz hbW hB hs
  have bAl : ∀ (u v : Bool), Below W.heap.size W (W.alloc (.cells #[.bool u, .bool v] 4)) := fun _ _ => (Below.refl _ _).alloc (Nat.le_refl _) _
  have BAL := hid bAl
  clear bAl
  by_cases hc : askOf b 0 s true false = 0
  case neg =>
    have d1 : (askOf b 0 s true false != 0) = true := by simpa using hc
    have HC := hid hc
    clear hc
    go_enter Try.func18, Try.ntmps18
    go_wp2_with fail
    refine (asked_any b Af As At cf cs ct W.heap.size _ HS.out (hBW.out.kept (Kept.of_below (BAL.out _ _))) 0 s true false (by simp) (by simp)).mono ?_
    rintro e w1 ⟨rfl, hb1⟩
    have HB1 := hid ((BAL.out _ _).trans (hb1.mono (by simp)))
    clear hb1
    go_wp2_with fail
    go_ret3
    exact ⟨HBW.out.trans (HB1.out.mono HBW.out.size), .inl ⟨HC.out, rfl⟩⟩
  case pos =>
    obtain ⟨hck, r3, r4⟩ := askOf_slot hc
    obtain ⟨sn, rfl⟩ : ∃ sn : Nat, s = (sn : Int) := ⟨s.toNat, by omega⟩
    have HC := hid hc
    have HCK := hid hck
    have HG := hid (Board.check_good hck)
    have HFI := hid (Board.check_fine HS.out hck)
    have hsl : sn < b.slots.length := by omega
    clear hc hck
    go_enter Try.func18, Try.ntmps18
    go_wp2_with fail
    refine (asked_t b Af As At cf cs ct W.heap.size _ HS.out (hBW.out.kept (Kept.of_below (BAL.out _ _))) 0 sn true false (by simp) (by simp) HC.out).mono ?_
    rintro e w1 ⟨rfl, hb1⟩
    have hb1' := (BAL.out _ _).trans (hb1.mono (by simp))
    have k0 := (Kept.of_below hb1') _ _ c0
    have k1 := (Kept.of_below hb1') _ _ c1
    have k2 := (Kept.of_below hb1') _ _ c2
    have HB1 := hid hb1'
    clear hb1 hb1' hW c0 c1 c2
    go_wp2_with fail
    refine (matched_any b Af As At cf cs ct w1 HFI.out (hBW.out.kept (Kept.of_below HB1.out))).mono ?_
    have hbb : Below w.heap.size w w1 := HBW.out.trans (HB1.out.mono HBW.out.size)
    rintro e w2 (⟨tb, rfl, w0, hb, rb, has, h01, hT, hA⟩ | ⟨rfl, hb2, H, hS⟩)
    case inr =>
      have HB2 := hid hb2
      have HSH := hid hS
      have HBB := hid hbb
      clear hb2 hS hbb
      go_wp2_with fail
      go_ret3
      exact ⟨HBB.out.trans (HB2.out.mono HBB.out.size), .inr (.inl ⟨HC.out, Board.no_as HCK.out HSH.out, rfl⟩)⟩
    case inl =>
      have hb12 : Below w1.heap.size w1 w2 := h01.trans (hT.kept.mono h01.size)
      have m0 := (Kept.of_below hb12) _ _ k0
      have m1 := (Kept.of_below hb12) _ _ k1
      have m2 := (Kept.of_below hb12) _ _ k2
      have hB2 := hid ((hBW.out.kept (Kept.of_below HB1.out)).kept (Kept.of_below hb12))
      have HA := hid hA
      have HBB := hid (hbb.trans (hb12.mono hbb.size))
      have hlw2 : w.heap.size < w2.heap.size := cell_lt m0
      clear h01 hT hA hb12 k0 k1 k2 hbb
      go_wp2_with fail
      have M0 := hid m0
      have M1 := hid m1
      have M2 := hid m2
      clear m0 m1 m2
      go_loopg [5, 33] (b.fits.length) (fun g v i wr => w2 = wr ∧ ∃ k : Nat, k ≤ b.fits.length ∧ g = b.fits.length - k ∧ i = .int .i64 k ∧ v = .int .i64 (fitCount (b.fits.take k) sn))
      case atStart => exact ⟨rfl, 0, by omega, by omega, rfl, rfl⟩
      case round =>
        obtain ⟨rfl, k, hk, hgk, rfl, rfl⟩ := hrel
        by_cases hlt : k < b.fits.length
        · obtain ⟨fb, foff, rfl, hfc⟩ := hB2.out.fits (by omega)
          obtain ⟨Aj, cj, f1, f2⟩ := hfc k hlt
          have hlenL := HFI.out.lens _ (List.getElem_mem hlt)
          have hst := fitCount_step (s := (sn : Int)) hlt
          have hfle := fitCount_le b.fits (sn : Int) k
          obtain ⟨L, hL⟩ : ∃ L, L = b.fits[k] := ⟨_, rfl⟩
          rw [← hL] at f1 f2 hlenL hst
          have HST := hid hst
          have HF2 := hid f2
          have g1 := hfle.1
          have g2 := hfle.2
          obtain ⟨F, hF⟩ : ∃ F, F = fitCount (b.fits.take k) (sn : Int) := ⟨_, rfl⟩
          rw [← hF] at g1 g2 ⊢
          have HFQ := hid hF
          clear hfc hL f2 hst hfle hF
          rcases hmem : decide ((sn : Int) ∈ L) with _ | _
          · have HM := hid hmem
            clear hmem
            go_wp2_with fail
            refine (contains_t _ _ _ _ _ (by omega) HF2.out HM.out).mono ?_
            rintro e w3 ⟨rfl, rfl⟩
            go_wp2_with fail
            go_roundg (b.fits.length - (k + 1))
            case measure => omega
            case rel => exact ⟨rfl, k + 1, by omega, rfl, by go_num, by rw [HST.out, if_neg (of_decide_eq_false HM.out), Int.add_zero, ← HFQ.out]⟩
          · have HM := hid hmem
            clear hmem
            go_wp2_with fail
            refine (contains_t _ _ _ _ _ (by omega) HF2.out HM.out).mono ?_
            rintro e w3 ⟨rfl, rfl⟩
            go_wp2_with fail
            go_roundg (b.fits.length - (k + 1))
            case measure => omega
            case rel => exact ⟨rfl, k + 1, by omega, rfl, by go_num, by rw [HST.out, if_pos (of_decide_eq_true HM.out), ← HFQ.out]⟩
        · obtain rfl : k = b.fits.length := by omega
          have hfle := fitCount_le b.fits (sn : Int) b.fits.length
          rw [List.take_length] at hfle ⊢
          have m1 := M1.out
          obtain ⟨sb, soff, rfl, hsc⟩ := hB2.out.slots (by omega)
          have p2 := (hsc sn hsl).2.2
          have hpr := HG.out.rooms (sn : Int) (by omega) (by rw [pieces_length]; omega)
          rw [piece_of hsl] at hpr
          have HPR : Hid (roomOf (pieces b.slots) (sn : Int) = b.slots[sn].pieces) := hid (piece_of hsl)
          obtain ⟨F, hF⟩ : ∃ F, F = fitCount b.fits (sn : Int) := ⟨_, rfl⟩
          obtain ⟨Q, hQ⟩ : ∃ Q, Q = b.slots[sn].pieces := ⟨_, rfl⟩
          rw [← hF] at hfle ⊢
          rw [← hQ] at p2 hpr HPR
          have g1 := hfle.1
          have g2 := hfle.2
          have g3 := hpr.1
          have g4 := hpr.2
          have HFQ := hid hF
          clear hsc hfle hpr hF hQ
          go_wp2_with fail
          obtain ⟨M, hM⟩ : ∃ M, M = min F Q := ⟨_, rfl⟩
          rw [← hM]
          have q1 : 0 ≤ M := by omega
          have q2 : M ≤ 20000 := by omega
          have q3 : M ≤ Q := by omega
          have hMI : ∀ low : Int, (∀ a, b.As a → low ≤ loadOf a sn) → (∃ a, b.As a ∧ loadOf a sn ≤ low) → LoadIs b sn low M := by
            intro low hall ⟨a, ha, hle⟩
            have hsr : (sn : Int) < (pieces b.slots).length := by rw [pieces_length]; omega
            obtain ⟨c, hc, he⟩ := load_reach (by omega) hsr _ a ha (Nat.le_refl _)
            rw [HPR.out, ← HFQ.out, ← hM] at he
            refine ⟨⟨a, ha, by have := hall a ha; omega⟩, ⟨c, hc, he⟩, fun x hx => ⟨hall x hx, ?_⟩⟩
            have h1 := load_fit hx (by omega : (0 : Int) ≤ sn)
            have h2 := hx.loads (sn : Int) (by omega) hsr
            rw [HPR.out] at h2
            rw [← HFQ.out] at h1
            omega
          have HMI := hid hMI
          have HMQ := hid hM
          have hall0 : Hid (∀ a, b.As a → ((0 : Nat) : Int) ≤ loadOf a sn) := hid (fun a _ => loadOf_nonneg a _)
          have hhas : Hid (loadOf has sn ≤ M) := hid (by
            have hsr : (sn : Int) < (pieces b.slots).length := by rw [pieces_length]; omega
            have h1 := load_fit HA.out (by omega : (0 : Int) ≤ sn)
            have h2 := HA.out.loads (sn : Int) (by omega) hsr
            rw [HPR.out] at h2
            rw [← HFQ.out] at h1
            omega)
          clear hM hMI p2 m1
          go_loopg [4] (M.toNat) (fun g v wr => ∃ low : Nat, (low : Int) ≤ M ∧ g = M.toNat - low ∧ v = .int .i64 low ∧ Hid (∀ a, b.As a → (low : Int) ≤ loadOf a sn) ∧ Hid (Below w2.heap.size w2 wr))
          case atStart => exact ⟨0, by omega, by omega, rfl, hall0, hid (Below.refl _ _)⟩
          case round =>
            obtain ⟨low, hlm, hgl, rfl, hall, hbw⟩ := hrel
            by_cases hlt2 : (low : Int) < M
            · have d3 : decide ((low : Int) < M) = true := decide_eq_true hlt2
              have m0 := (Kept.of_below hbw.out) _ _ M0.out
              have m1 := (Kept.of_below hbw.out) _ _ M1.out
              have m2 := (Kept.of_below hbw.out) _ _ M2.out
              go_wp2_with fail
              refine (tried_any b Af (some ⟨sb, soff, none⟩) At cf cs ct wr HFI.out.finds HFI.out.slots HFI.out.fits (hB2.out.kept (Kept.of_below hbw.out))).mono ?_
              rintro e w4 ⟨ub, uh, ur, rfl, hU⟩
              have hsp : sn < (pieces b.slots).length := by rw [pieces_length]; exact hsl
              obtain ⟨Ar, cr, v3, v3r⟩ := hU.roomAt
              have hAr := v3r (by omega)
              subst hAr
              have v5 := (hU.roomRow sn hsp).1
              have v5f := (hU.roomRow sn hsp).2
              have U2 := hU.setRoom sn low
              obtain ⟨W2, hW2⟩ : ∃ W2, w4.setCell ⟨ur, sn, none⟩ (.int .i64 (low : Int)) = W2 := ⟨_, rfl⟩
              rw [hW2] at U2
              have HU2 := hid U2
              have z1 : (0 : Int) ≤ sn := by omega
              have z2 : (sn : Int) < (pieces b.slots).length := by omega
              have HSP := hid hsp
              clear hU v3r U2 m0 m1 m2
              go_wp2_with fail
              obtain ⟨ht1, ht2, ht3⟩ := HU2.out.trial
              refine (fill_any _ ub uh b.fits ((pieces b.slots).set sn low) ht1 ht2 (by rw [HFI.out.fits]; exact HFI.out.finds) (by rw [List.length_set, pieces_length]; exact HFI.out.slots) HFI.out.lens (by rw [List.length_set]; exact HFI.out.inside)
                (fun x h0 h1 => by rw [List.length_set] at h1; rw [roomOf_set HSP.out h0]; have := HG.out.rooms x h0 h1; split <;> omega) (-1) (.inl (by omega)) W2 ht3 HU2.out.hasRow).mono ?_
              have hbb2 : ∀ w3, Only [uh] W2 w3 → Below w2.heap.size w2 w3 := fun w3 ho => (hbw.out.trans (HU2.out.kept.mono hbw.out.size)).trans (ho.below (fun x hx => by rw [List.mem_singleton] at hx; subst hx; exact Nat.le_trans hbw.out.size HU2.out.lo.2.1) (Nat.le_trans hbw.out.size HU2.out.kept.size))
              have HBB2 := hid hbb2
              clear hbb2
              rintro e w5 ⟨ho, ⟨rfl, h5, hF, hrow⟩ | ⟨H, A, c, rfl, hAA, hS⟩⟩
              · have HO := hid ho
                have HF5 := hid hF
                clear ho hF hrow ht1 ht2 ht3
                go_wp2_with fail
                go_ret3
                obtain ⟨l1, l2⟩ := Asg.lower HSP.out (HF5.out.asg (by omega)) (by rw [HPR.out]; omega)
                exact ⟨HBB.out.trans ((HBB2.out _ HO.out).mono HBB.out.size), .inr (.inr ⟨HC.out, ⟨has, HA.out⟩, low, M, HMI.out low hall.out ⟨_, l1, l2⟩, rfl⟩)⟩
              · have HO := hid ho
                have HSS := hid hS
                clear ho hS hAA ht1 ht2 ht3
                go_wp2_with fail
                go_roundg (M.toNat - (low + 1))
                case measure => omega
                case rel => exact ⟨low + 1, by omega, rfl, by go_num, hid (fun a ha => by have := Short.raises HG.out.inside HSP.out HSS.out.short ha; omega), hid (HBB2.out _ HO.out)⟩
            · have d3 : decide ((low : Int) < M) = false := decide_eq_false hlt2
              have hle : Hid ((low : Int) = M) := hid (by omega)
              go_wp2_with fail
              go_ret3
              refine ⟨HBB.out.trans (hbw.out.mono HBB.out.size), .inr (.inr ⟨HC.out, ⟨has, HA.out⟩, low, M, HMI.out low hall.out ⟨has, HA.out, by have := hhas.out; have := hle.out; omega⟩, rfl⟩)⟩
end Go.Proofs.Ytpmdjbjnihhjeaa
