/- Through, May, Chances, Must. -/
import Derived.Test.YtpmdjbjnihhjeaaAsked
namespace Go.Proofs.Ytpmdjbjnihhjeaa
open Go.RowKit

theorem askOf_range {b : Board} {f s : Int} (h : askOf b f s false false = 0) : b.check = 0 ∧ 0 ≤ f ∧ f < b.finds.length ∧ 0 ≤ s ∧ s < b.slots.length := by
  have hc := askOf_ok h
  unfold askOf at h
  rw [if_pos hc] at h
  by_cases e : inB f 0 (b.finds.length - 1) = true ∧ inB s 0 (b.slots.length - 1) = true
  · obtain ⟨e1, e2⟩ := e
    simp only [inB, Bool.and_eq_true, decide_eq_true_eq] at e1 e2
    omega
  · rw [if_pos (by
      rcases h1 : inB f 0 (b.finds.length - 1) with _ | _ <;> rcases h2 : inB s 0 (b.slots.length - 1) with _ | _ <;> simp_all)] at h
    simp at h

/-- What Through comes to. -/
def ThroughPost (b : Board) (f s : Int) (w : World) (e : Ending) (w' : World) : Prop :=
  Below w.heap.size w w' ∧
    ((askOf b f s false false ≠ 0 ∧ e = .returned (.tuple #[.slice none 0 0, .bool false, .int .i64 (askOf b f s false false)])) ∨
     (askOf b f s false false = 0 ∧ (¬ ∃ a, b.As a) ∧ e = .returned (.tuple #[.slice none 0 0, .bool false, .int .i64 40])) ∨
     (askOf b f s false false = 0 ∧ (∃ a, b.As a) ∧
       ((∃ A c a, e = .returned (.tuple #[.slice A a.length c, .bool true, .int .i64 0]) ∧ IntsAt w' A a ∧ b.As a ∧ hasOf a f.toNat = s) ∨
        (e = .returned (.tuple #[.slice none 0 0, .bool false, .int .i64 0]) ∧ ∀ a, b.As a → hasOf a f.toNat ≠ s))))

theorem ret3_int {v u : Value} {a b : Int} (h : a = b) : Ending.returned (.tuple #[v, u, .int .i64 a]) = .returned (.tuple #[v, u, .int .i64 b]) := by rw [h]

set_option maxRecDepth 100000 in
set_option maxHeartbeats 4000000 in
theorem through_any (b : Board) (Af As At : Option Addr) (cf cs ct : Nat) (w : World) (hs : b.small) (hB : BoardAt w Af As At b) (f s : Int) :
    Calls Try.prog 30 #[.agg #[.slice Af b.finds.length cf, .slice As b.slots.length cs, .slice At b.fits.length ct], .int .i64 f, .int .i64 s] w (ThroughPost b f s w) := by
  have HB := hid hB
  have HS := hid hs
  obtain ⟨W, hW, c0, c1, c2, hbW, hz⟩ := box3 w (.slice Af b.finds.length cf) (.slice As b.slots.length cs) (.slice At b.fits.length ct) 26
  have HBW := hid hbW
  have hBW := hid (hB.kept (Kept.of_below hbW))
  clear hz hbW hB hs
  by_cases hc : askOf b f s false false = 0
  case neg =>
    have d1 : (askOf b f s false false != 0) = true := by simpa using hc
    have HC := hid hc
    clear hc
    go_enter Try.func30, Try.ntmps30
    go_wp2_with fail
    refine (both_any b Af As At cf cs ct W HS.out hBW.out f s rfl).mono ?_
    rintro e w1 ⟨rfl, hb1⟩
    have HB1 := hid hb1
    clear hb1
    go_wp2_with fail
    go_ret3
    exact ⟨HBW.out.trans (HB1.out.mono HBW.out.size), .inl ⟨HC.out, rfl⟩⟩
  case pos =>
    obtain ⟨hck, r1, r2, r3, r4⟩ := askOf_range hc
    obtain ⟨fn, rfl⟩ : ∃ fn : Nat, f = (fn : Int) := ⟨f.toNat, by omega⟩
    have HC := hid hc
    have HCK := hid hck
    have HG := hid (Board.check_good hck)
    have HFI := hid (Board.check_fine HS.out hck)
    clear hc hck
    go_enter Try.func30, Try.ntmps30
    go_wp2_with fail
    refine (both_any b Af As At cf cs ct W HS.out hBW.out fn s HC.out).mono ?_
    rintro e w1 ⟨rfl, hb1⟩
    have k0 := (Kept.of_below hb1) _ _ c0
    have k1 := (Kept.of_below hb1) _ _ c1
    have k2 := (Kept.of_below hb1) _ _ c2
    have HB1 := hid hb1
    clear hb1 hW
    go_wp2_with fail
    refine (matched_any b Af As At cf cs ct w1 HFI.out (hBW.out.kept (Kept.of_below HB1.out))).mono ?_
    rintro e w2 (⟨tb, rfl, w0, hb, rb, has, h01, hT, hA⟩ | ⟨rfl, hb2, H, hS⟩)
    · have HT := hid hT
      have HA := hid hA
      have H01 := hid h01
      clear h01 hT hA
      go_wp2_with fail
      refine (with_any w0 w2 tb hb rb b _ has HFI.out HT.out HA.out HG.out.inside HG.out.rooms fn (by rw [HFI.out.fits]; omega) s r3).mono ?_
      have hbb : Below w.heap.size w w2 := (HBW.out.trans (HB1.out.mono HBW.out.size)).trans ((H01.out.trans (HT.out.kept.mono H01.out.size)).mono (Nat.le_trans HBW.out.size HB1.out.size))
      have HBB := hid hbb
      clear hbb
      rintro e w3 ⟨hb3, ⟨A, c, a, rfl, hAi, hAs, ha⟩ | ⟨rfl, hno⟩⟩
      · have HB3 := hid hb3
        have HAI := hid hAi
        have HAS := hid hAs
        have HAF := hid ha
        clear hb3 hAi hAs ha
        go_wp2_with fail
        go_ret3
        exact ⟨HBB.out.trans (HB3.out.mono HBB.out.size), .inr (.inr ⟨HC.out, ⟨has, HA.out⟩, .inl ⟨A, c, a, rfl, HAI.out, HAS.out, by rw [Int.toNat_natCast]; exact HAF.out⟩⟩)⟩
      · have HB3 := hid hb3
        have HNO := hid hno
        clear hb3 hno
        go_wp2_with fail
        go_ret3
        exact ⟨HBB.out.trans (HB3.out.mono HBB.out.size), .inr (.inr ⟨HC.out, ⟨has, HA.out⟩, .inr ⟨rfl, fun a ha => by rw [Int.toNat_natCast]; exact HNO.out a ha⟩⟩)⟩
    · have HB2 := hid hb2
      have HSH := hid hS
      clear hb2 hS
      go_wp2_with fail
      go_ret3
      exact ⟨(HBW.out.trans (HB1.out.mono HBW.out.size)).trans (HB2.out.mono (Nat.le_trans HBW.out.size HB1.out.size)), .inr (.inl ⟨HC.out, Board.no_as HCK.out HSH.out, rfl⟩)⟩

/-- What May comes to. -/
def MayPost (b : Board) (f s : Int) (w : World) (e : Ending) (w' : World) : Prop :=
  Below w.heap.size w w' ∧
    ((askOf b f s false false ≠ 0 ∧ e = .returned (.tuple #[.bool false, .int .i64 (askOf b f s false false)])) ∨
     (askOf b f s false false = 0 ∧ (¬ ∃ a, b.As a) ∧ e = .returned (.tuple #[.bool false, .int .i64 40])) ∨
     (askOf b f s false false = 0 ∧ (∃ a, b.As a) ∧ e = .returned (.tuple #[.bool (canB b.fits (pieces b.slots) f.toNat s), .int .i64 0])))

set_option maxRecDepth 100000 in
set_option maxHeartbeats 4000000 in
theorem may_any (b : Board) (Af As At : Option Addr) (cf cs ct : Nat) (w : World) (hs : b.small) (hB : BoardAt w Af As At b) (f s : Int) :
    Calls Try.prog 29 #[.agg #[.slice Af b.finds.length cf, .slice As b.slots.length cs, .slice At b.fits.length ct], .int .i64 f, .int .i64 s] w (MayPost b f s w) := by
  have HB := hid hB
  have HS := hid hs
  obtain ⟨W, hW, c0, c1, c2, hbW, hz⟩ := box3 w (.slice Af b.finds.length cf) (.slice As b.slots.length cs) (.slice At b.fits.length ct) 26
  have HBW := hid hbW
  have hBW := hid (hB.kept (Kept.of_below hbW))
  clear hz hbW hB hs
  go_enter Try.func29, Try.ntmps29
  go_wp2_with fail
  refine (through_any b Af As At cf cs ct W HS.out hBW.out f s).mono ?_
  rintro e w1 ⟨hb1, ⟨h1, rfl⟩ | ⟨h1, h2, rfl⟩ | ⟨h1, h2, ⟨A, c, a, rfl, hAi, hAs, ha⟩ | ⟨rfl, hno⟩⟩⟩
  · have HB1 := hid hb1
    have H1 := hid h1
    clear hb1 h1 hW
    go_wp2_with fail
    go_ret2
    exact ⟨HBW.out.trans (HB1.out.mono HBW.out.size), .inl ⟨H1.out, rfl⟩⟩
  · have HB1 := hid hb1
    have H1 := hid h1
    have H2 := hid h2
    clear hb1 h1 hW h2
    go_wp2_with fail
    go_ret2
    exact ⟨HBW.out.trans (HB1.out.mono HBW.out.size), .inr (.inl ⟨H1.out, H2.out, rfl⟩)⟩
  · have HB1 := hid hb1
    have H1 := hid h1
    have H2 := hid h2
    have HCAN : Hid (canB b.fits (pieces b.slots) f.toNat s = true) := hid (canB_true.2 ⟨a, hAs, ha⟩)
    clear hb1 h1 hW h2 hAi hAs ha
    go_wp2_with fail
    go_ret2
    exact ⟨HBW.out.trans (HB1.out.mono HBW.out.size), .inr (.inr ⟨H1.out, H2.out, by rw [HCAN.out]; rfl⟩)⟩
  · have HB1 := hid hb1
    have H1 := hid h1
    have H2 := hid h2
    have HCAN : Hid (canB b.fits (pieces b.slots) f.toNat s = false) := hid (by
      rcases h : canB b.fits (pieces b.slots) f.toNat s with _ | _
      · rfl
      · obtain ⟨a, g1, g2⟩ := canB_true.1 h
        exact absurd g2 (hno a g1))
    clear hb1 h1 hW h2 hno
    go_wp2_with fail
    go_ret2
    exact ⟨HBW.out.trans (HB1.out.mono HBW.out.size), .inr (.inr ⟨H1.out, H2.out, by rw [HCAN.out]; rfl⟩)⟩
end Go.Proofs.Ytpmdjbjnihhjeaa
