/- Within. -/
import Derived.Test.YtpmdjbjnihhjeaaEvery
import Derived.Test.YtpmdjbjnihhjeaaWith
import Derived.Test.YtpmdjbjnihhjeaaLoads
import Derived.Test.YtpmdjbjnihhjeaaMeets
import Derived.Laws.EntriesVeiled
namespace Go.Proofs.Ytpmdjbjnihhjeaa
open Go.RowKit

set_option maxHeartbeats 1000000 in
theorem notIn_any (B : Option Addr) (cap bx : Nat) (ys : List Int) (x : Int) (w : World) (hm : ys.length ≤ 9223372036854775807) (hB : IntsAt w B ys)
    (hbx : w.cell? ⟨bx, 0, none⟩ = some (.slice B ys.length cap)) {t : Bool} (ht : decide (x ∈ ys) = !t) :
    Calls Try.prog 70 #[.int .i64 x, .pointer (some ⟨bx, 0, none⟩)] w fun e w' => e = .returned (.bool t) ∧ w = w' := by
  have HB := hid hB
  have HT := hid ht
  clear hB ht
  cases t
  all_goals
    go_enter Try.func70, Try.ntmps70
    go_wp2_with fail
    refine (contains_t _ _ _ _ _ hm HB.out HT.out).mono ?_
    rintro e w' ⟨rfl, rfl⟩
    go_wp2_with fail
    go_ret
    exact ⟨rfl, rfl⟩

set_option maxHeartbeats 1000000 in
theorem indexFunc70_any (A B : Option Addr) (cap capB bx : Nat) (xs ys : List Int) (w : World) (hm : xs.length ≤ 9223372036854775807) (hm2 : ys.length ≤ 9223372036854775807) (hA : IntsAt w A xs) (hB : IntsAt w B ys)
    (hbx : w.cell? ⟨bx, 0, none⟩ = some (.slice B ys.length capB)) {t : Bool} (ht : decide (∀ x ∈ xs, x ∈ ys) = !t) :
    Calls Try.prog 91 #[.slice A xs.length cap, .func (.func 70) #[] #[.pointer (some ⟨bx, 0, none⟩)]] w fun e w' => (∃ i : Int, e = .returned (.int .i64 i) ∧ decide (0 ≤ i) = t) ∧ w = w' := by
  have HA := hid hA
  have HB := hid hB
  have HT := hid ht
  clear hA hB ht
  go_enter Try.func91, Try.ntmps91
  go_wp2
  go_loop [8] (fun i => ∃ k : Nat, k ≤ xs.length ∧ i = .int .i64 k ∧ Hid (∀ x ∈ xs.take k, x ∈ ys)) (fun i => xs.length - (intOf i).toNat)
  case atStart => exact ⟨0, by omega, rfl, hid (by simp)⟩
  case round =>
    obtain ⟨k, hk, rfl, hn⟩ := hrel
    by_cases hlt : k < xs.length
    · obtain ⟨b, off, rfl, hc⟩ := HA.out (by omega)
      have hcell := hc k hlt
      clear hc
      rcases hq : decide (xs[k] ∈ ys) with _ | _
      · have HQ := hid hq
        clear hq
        go_wp2_with (go_at_call 70; refine (notIn_any _ _ _ _ _ _ hm2 HB.out (by assumption) (t := true) HQ.out).mono ?_; rintro e w' ⟨rfl, rfl⟩)
        go_ret
        refine ⟨⟨k, rfl, ?_⟩, rfl⟩
        rw [decide_eq_true (by omega : (0 : Int) ≤ k)]
        have h1 := HT.out
        have : ¬ (∀ x ∈ xs, x ∈ ys) := fun h => by have := h _ (List.getElem_mem hlt); have := HQ.out; simp at this; contradiction
        rw [decide_eq_false this] at h1
        exact flip_f h1
      · have HQ := hid hq
        clear hq
        go_wp2_with (go_at_call 70; refine (notIn_any _ _ _ _ _ _ hm2 HB.out (by assumption) (t := false) HQ.out).mono ?_; rintro e w' ⟨rfl, rfl⟩)
        go_round
        case rel => exact ⟨k + 1, by omega, by go_num, hid (by rw [List.take_succ_eq_append_getElem hlt]; intro x hx; simp only [List.mem_append, List.mem_singleton] at hx; rcases hx with hx | rfl; exact hn.out x hx; simpa using HQ.out)⟩
        case measure => simp [intOf]; omega
    · go_wp2
      go_ret
      refine ⟨⟨-1, rfl, ?_⟩, rfl⟩
      have h1 := HT.out
      have h2 := hn.out
      rw [List.take_of_length_le (by omega)] at h2
      rw [decide_eq_true h2] at h1
      exact flip_t h1

set_option maxHeartbeats 1000000 in
theorem containsFunc70_any (A B : Option Addr) (cap capB bx : Nat) (xs ys : List Int) (w : World) (hm : xs.length ≤ 9223372036854775807) (hm2 : ys.length ≤ 9223372036854775807) (hA : IntsAt w A xs) (hB : IntsAt w B ys)
    (hbx : w.cell? ⟨bx, 0, none⟩ = some (.slice B ys.length capB)) {t : Bool} (ht : decide (∀ x ∈ xs, x ∈ ys) = !t) :
    Calls Try.prog 69 #[.slice A xs.length cap, .func (.func 70) #[] #[.pointer (some ⟨bx, 0, none⟩)]] w fun e w' => e = .returned (.bool t) ∧ w = w' := by
  have HC := hid (indexFunc70_any A B cap capB bx xs ys w hm hm2 hA hB hbx ht)
  clear ht hA hB hbx
  go_enter Try.func69, Try.ntmps69
  go_wp2_with fail
  refine HC.out.mono ?_
  rintro e w' ⟨⟨i, rfl, hi⟩, rfl⟩
  clear HC
  cases t
  all_goals
    go_wp2
    go_ret
    exact ⟨rfl, rfl⟩

open Classical in
noncomputable def withinB (b : Board) (f : Nat) (L : List Int) : Bool := decide (0 < (chancesOf b.fits (pieces b.slots) f).length) && decide (∀ x ∈ chancesOf b.fits (pieces b.slots) f, x ∈ L)
/-- What Within comes to. -/
def WithinPost (b : Board) (f : Int) (L : List Int) (w : World) (e : Ending) (w' : World) : Prop :=
  Below w.heap.size w w' ∧
    ((askOf b f 0 false true ≠ 0 ∧ e = .returned (.tuple #[.bool false, .int .i64 (askOf b f 0 false true)])) ∨
     (askOf b f 0 false true = 0 ∧ ¬ Rise L 0 ((b.slots.length : Int) - 1) ∧ e = .returned (.tuple #[.bool false, .int .i64 1])) ∨
     (askOf b f 0 false true = 0 ∧ Rise L 0 ((b.slots.length : Int) - 1) ∧ (¬ ∃ a, b.As a) ∧ e = .returned (.tuple #[.bool false, .int .i64 40])) ∨
     (askOf b f 0 false true = 0 ∧ Rise L 0 ((b.slots.length : Int) - 1) ∧ (∃ a, b.As a) ∧ e = .returned (.tuple #[.bool (withinB b f.toNat L), .int .i64 0])))
theorem boxL (w : World) (v : Value) : ∃ V, w.alloc (.cells #[v] 22) = V ∧ V.cell? ⟨w.heap.size, 0, none⟩ = some v ∧ Below w.heap.size w V ∧ V.heap.size = w.heap.size + 1 :=
  ⟨_, rfl, by simp, (Below.refl _ _).alloc (Nat.le_refl _) _, by simp⟩
theorem chancesOf_len {fits : List (List Int)} {room : List Int} {f : Nat} : (chancesOf fits room f).length ≤ (fitOf fits f).length := List.length_filter_le _ _

set_option maxRecDepth 100000 in
set_option maxHeartbeats 8000000 in
theorem within_any (b : Board) (Af As At Al : Option Addr) (cf cs ct cl : Nat) (f : Int) (L : List Int) (w : World) (hs : b.small) (hl : L.length ≤ 80) (hB : BoardAt w Af As At b) (hL : IntsAt w Al L) :
    Calls Try.prog 32 #[.agg #[.slice Af b.finds.length cf, .slice As b.slots.length cs, .slice At b.fits.length ct], .int .i64 f, .slice Al L.length cl] w (WithinPost b f L w) := by
  have HS := hid hs
  have n2 := hs.2.1
  obtain ⟨W, hW, c0, c1, c2, hbW, hz⟩ := box3 w (.slice Af b.finds.length cf) (.slice As b.slots.length cs) (.slice At b.fits.length ct) 26
  obtain ⟨V, hV, l0, hbV, hzV⟩ := boxL W (.slice Al L.length cl)
  have kV := Kept.of_below hbV
  have v0 := kV _ _ c0
  have v1 := kV _ _ c1
  have v2 := kV _ _ c2
  have HBV := hid (hbW.trans (hbV.mono hbW.size))
  have hB0 := hid hB
  have hL0 := hid hL
  have bAl : ∀ (u v : Bool), Below V.heap.size V (V.alloc (.cells #[.bool u, .bool v] 4)) := fun _ _ => (Below.refl _ _).alloc (Nat.le_refl _) _
  have BAL := hid bAl
  clear bAl hz hbW hbV hzV hB hL kV hs c0 c1 c2
  by_cases hc : askOf b f 0 false true = 0
  case neg =>
    have d1 : (askOf b f 0 false true != 0) = true := by simpa using hc
    have HC := hid hc
    clear hc
    go_enter Try.func32, Try.ntmps32
    go_wp2_with fail
    refine (asked_any b Af As At cf cs ct V.heap.size _ HS.out (hB0.out.kept (Kept.of_below (HBV.out.trans ((BAL.out _ _).mono HBV.out.size)))) f 0 false true (by simp) (by simp)).mono ?_
    rintro e w1 ⟨rfl, hb1⟩
    have HB1 := hid ((BAL.out _ _).trans (hb1.mono (by simp)))
    clear hb1
    go_wp2_with fail
    go_ret2
    exact ⟨HBV.out.trans (HB1.out.mono HBV.out.size), .inl ⟨HC.out, rfl⟩⟩
  obtain ⟨hck, r3, r4⟩ := askOf_find hc
  obtain ⟨fn, rfl⟩ : ∃ fn : Nat, f = (fn : Int) := ⟨f.toNat, by omega⟩
  have HC := hid hc
  have HCK := hid hck
  have HG := hid (Board.check_good hck)
  have HFI := hid (Board.check_fine HS.out hck)
  have HFN : Hid (fn < b.fits.length) := hid (by rw [HFI.out.fits]; omega)
  clear hc hck
  go_enter Try.func32, Try.ntmps32
  go_wp2_with fail
  refine (asked_t b Af As At cf cs ct V.heap.size _ HS.out (hB0.out.kept (Kept.of_below (HBV.out.trans ((BAL.out _ _).mono HBV.out.size)))) fn 0 false true (by simp) (by simp) HC.out).mono ?_
  rintro e w1 ⟨rfl, hb1⟩
  have hb1' := (BAL.out false true).trans (hb1.mono (by simp))
  have k0 := (Kept.of_below hb1') _ _ v0
  have k1 := (Kept.of_below hb1') _ _ v1
  have k2 := (Kept.of_below hb1') _ _ v2
  have kl := (Kept.of_below hb1') _ _ l0
  have HB1 := hid (HBV.out.trans (hb1'.mono HBV.out.size))
  clear hb1 hb1' hW hV v0 v1 v2 l0
  rcases ht : decide (Rise L 0 ((b.slots.length : Int) - 1)) with _ | _
  · have HT := hid ht
    clear ht
    go_wp2_with fail
    refine (rising_t _ _ _ _ _ _ (by omega) (hL0.out.kept (Kept.of_below HB1.out)) HT.out).mono ?_
    rintro e w' ⟨rfl, rfl⟩
    go_wp2_with fail
    go_ret2
    exact ⟨HB1.out, .inr (.inl ⟨HC.out, of_decide_eq_false HT.out, rfl⟩)⟩
  have HT := hid ht
  clear ht
  go_wp2_with fail
  refine (rising_t _ _ _ _ _ _ (by omega) (hL0.out.kept (Kept.of_below HB1.out)) HT.out).mono ?_
  rintro e w' ⟨rfl, rfl⟩
  go_wp2_with fail
  refine (matched_any b Af As At cf cs ct w1 HFI.out (hB0.out.kept (Kept.of_below HB1.out))).mono ?_
  rintro e w2 (⟨tb, rfl, w0, hb, rb, has, h01, hT, hA⟩ | ⟨rfl, hb2, H, hS⟩)
  case inr =>
    have HB2 := hid (HB1.out.trans (hb2.mono HB1.out.size))
    have HSH := hid hS
    clear hb2 hS
    go_wp2_with fail
    go_ret2
    exact ⟨HB2.out, .inr (.inr (.inl ⟨HC.out, of_decide_eq_true HT.out, Board.no_as HCK.out HSH.out, rfl⟩))⟩
  case inl =>
    have hb12 : Below w1.heap.size w1 w2 := h01.trans (hT.kept.mono h01.size)
    have ml := (Kept.of_below hb12) _ _ kl
    have HTT := hid hT
    have HA := hid hA
    have HB2 := hid (HB1.out.trans (hb12.mono HB1.out.size))
    clear h01 hT hA hb12 k0 k1 k2 kl
    have hmf : ∀ (fn : Fn) (first cap : Array Value) (w : World), (Instr.makeFunc fn first cap).run Try.prog w = .ok (.func fn first cap) w := fun _ _ _ _ => rfl
    go_wp2_with fail
    refine (chances_any w0 w2 tb hb rb b _ has HFI.out HTT.out HA.out HG.out.inside HG.out.rooms fn HFN.out).mono ?_
    rintro e w3 ⟨v3, rfl, hown3, hb3⟩
    obtain ⟨A3, c3, rfl, hA3⟩ := ownsRow.ints hown3
    have nl := (Kept.of_below hb3) _ _ ml
    have HB3 := hid (HB2.out.trans (hb3.mono HB2.out.size))
    have HA3 := hid hA3
    have hcl : (chancesOf b.fits (pieces b.slots) fn).length ≤ 1000 := Nat.le_trans chancesOf_len (by rw [fitOf_lt HFN.out]; exact HFI.out.lens _ (List.getElem_mem HFN.out))
    have HWB : Hid (withinB b ((fn : Int)).toNat L = (decide (0 < (chancesOf b.fits (pieces b.slots) fn).length) && decide (∀ x ∈ chancesOf b.fits (pieces b.slots) fn, x ∈ L))) := hid (by rw [Int.toNat_natCast]; unfold withinB; congr)
    obtain ⟨C, hC⟩ : ∃ C, chancesOf b.fits (pieces b.slots) fn = C := ⟨_, rfl⟩
    rw [hC] at hcl HA3 HWB ⊢
    clear hown3 hA3 hC hb3 ml
    by_cases h0 : 0 < C.length
    · have H0 := hid h0
      have i0 : (0 : Int) < C.length := by omega
      rcases hq : decide (∀ x ∈ C, x ∈ L) with _ | _
      all_goals
        have HQ := hid hq
        clear hq h0
        go_wp2_with fail
      · refine (containsFunc70_any A3 Al c3 cl _ C L w3 (by omega) (by omega) HA3.out (hL0.out.kept (Kept.of_below HB3.out)) nl (t := true) HQ.out).mono ?_
        rintro e w4 ⟨rfl, rfl⟩
        go_wp2_with fail
        go_ret2
        exact ⟨HB3.out, .inr (.inr (.inr ⟨HC.out, of_decide_eq_true HT.out, ⟨_, HA.out⟩, ret_b0 (by rw [HWB.out, HQ.out]; simp)⟩))⟩
      · refine (containsFunc70_any A3 Al c3 cl _ C L w3 (by omega) (by omega) HA3.out (hL0.out.kept (Kept.of_below HB3.out)) nl (t := false) HQ.out).mono ?_
        rintro e w4 ⟨rfl, rfl⟩
        go_wp2_with fail
        go_ret2
        exact ⟨HB3.out, .inr (.inr (.inr ⟨HC.out, of_decide_eq_true HT.out, ⟨_, HA.out⟩, ret_b0 (by rw [HWB.out, HQ.out, decide_eq_true H0.out]; rfl)⟩))⟩
    · have H0 := hid h0
      have i0 : C.length = 0 := by omega
      clear h0
      go_wp2_with fail
      go_ret2
      exact ⟨HB3.out, .inr (.inr (.inr ⟨HC.out, of_decide_eq_true HT.out, ⟨_, HA.out⟩, ret_b0 (by rw [HWB.out, decide_eq_false H0.out]; rfl)⟩))⟩
end Go.Proofs.Ytpmdjbjnihhjeaa
