/- Filling a trial, walked. -/
import Derived.Test.YtpmdjbjnihhjeaaGive
namespace Go.Proofs.Ytpmdjbjnihhjeaa
open Go.RowKit

/-- What filling comes to. -/
def FillPost (fits : List (List Int)) (room : List Int) (out : Int) (hb : Nat) (w : World) (e : Ending) (w' : World) : Prop :=
  Only [hb] w w' ∧
    ((e = .returned (.tuple #[.slice none 0 0, .bool true]) ∧ ∃ has', Filled fits room out has' ∧ RowAt (Value.int .i64) w' hb has') ∨
     (∃ H A c, e = .returned (.tuple #[.slice A H.length c, .bool false]) ∧ IntsAt w' A H ∧ Stuck fits room out H))

set_option maxRecDepth 100000 in
set_option maxHeartbeats 4000000 in
theorem fill_any (S : World) (tb hb : Nat) (fits : List (List Int)) (room : List Int) (hT : TrialAt S tb hb fits room) (hV : Void S [hb]) (hn : fits.length ≤ 100) (hm : room.length ≤ 300) (hl : ∀ l ∈ fits, l.length ≤ 1000)
    (hw : Inside fits room.length) (hr : ∀ s : Int, 0 ≤ s → s < room.length → 0 ≤ roomOf room s) (out : Int) (hout : out < 0 ∨ out < fits.length) (w : World) (hK : Kept S w) (hH : RowAt (Value.int .i64) w hb (List.replicate fits.length (-1))) :
    Calls Try.prog 61 #[.pointer (some ⟨tb, 0, none⟩), .int .i64 out] w (FillPost fits room out hb w) := by
  obtain ⟨_, _, ⟨Af, cf, t2, hfit⟩, _, ⟨ch, t4⟩⟩ := id hT
  have w2 := hK _ _ t2
  have HT := hid hT
  have HV := hid hV
  have HL := hid hl
  have HW := hid hw
  have HR := hid hr
  have HK := hid hK
  have HH := hid hH
  have HFIT := hid hfit
  clear hT hV hl hw hr hK hH hfit
  go_enter Try.func61, Try.ntmps61
  go_wp2_with fail
  clear w2
  go_loopg [16] (fits.length) (fun g i wr => ∃ (k : Nat) (has : List Int), k ≤ fits.length ∧ g = fits.length - k ∧ i = .int .i64 k ∧ Hid (FillTo fits room out k has) ∧ Hid (Kept S wr) ∧ Hid (RowAt (Value.int .i64) wr hb has) ∧ Hid (Only [hb] w wr))
  case atStart => exact ⟨0, _, by omega, by omega, rfl, hid (FillTo.start HW.out HR.out), HK, HH, hid (Only.refl _ _)⟩
  case round =>
    obtain ⟨k, has, hk, hgk, rfl, hto, hkr, hhr, hor⟩ := hrel
    by_cases hlt : k < fits.length
    · obtain ⟨fb, foff, rfl, hfc⟩ := HFIT.out (by omega)
      obtain ⟨Aj, cj, f1, _⟩ := hfc k hlt
      obtain ⟨L, hL⟩ : ∃ L, L = fits[k] := ⟨_, rfl⟩
      have hlen := HL.out fits[k] (List.getElem_mem hlt)
      rw [← hL] at f1 hlen
      have HFL : Hid (fitOf fits k = L) := hid ((fitOf_lt hlt).trans hL.symm)
      have f1' := hkr.out _ _ f1
      have x4 := hkr.out _ _ t4
      have hkh : k < has.length := by rw [hto.out.part.lenH]; exact hlt
      have x5 := (hhr.out k hkh).1
      have HH5 : Hid (hasOf has k = has[k]) := hid (hasOf_lt hkh)
      clear hfc hL f1
      by_cases h0 : L.length = 0
      · have d1 : ((L.length : Int) == 0) = true := beq_iff_eq.2 (by omega)
        have H0 := hid h0
        clear h0
        go_wp2_with fail
        go_roundg (fits.length - (k + 1))
        case measure => omega
        case rel => exact ⟨k + 1, has, by omega, rfl, by go_num, hid (hto.out.skip hlt (.inl (by rw [HFL.out]; exact List.eq_nil_of_length_eq_zero H0.out))), hkr, hhr, hor⟩
      have d1 : ((L.length : Int) == 0) = false := beq_eq_false_iff_ne.2 (by omega)
      have H0 := hid h0
      clear h0
      by_cases ho : (k : Int) = out
      · have d2 : ((k : Int) == out) = true := by simpa using ho
        have HO := hid ho
        clear ho
        go_wp2_with fail
        go_roundg (fits.length - (k + 1))
        case measure => omega
        case rel => exact ⟨k + 1, has, by omega, rfl, by go_num, hid (hto.out.skip hlt (.inr (.inl HO.out))), hkr, hhr, hor⟩
      have d2 : ((k : Int) == out) = false := by simpa using ho
      have HO := hid ho
      clear ho
      by_cases hg : 0 ≤ has[k]
      · have d3 : decide (0 ≤ has[k]) = true := decide_eq_true hg
        have HG := hid hg
        go_wp2_with fail
        go_roundg (fits.length - (k + 1))
        case measure => omega
        case rel => exact ⟨k + 1, has, by omega, rfl, by go_num, hid (hto.out.skip hlt (.inr (.inr (by rw [HH5.out]; exact HG.out)))), hkr, hhr, hor⟩
      · have d3 : decide (0 ≤ has[k]) = false := decide_eq_false hg
        have hneg : Hid (hasOf has k = -1) := hid (by
          rcases hto.out.part.vals k with h | h
          · exact h
          · have := HW.out k _ h; have := HH5.out; omega)
        have HNE : Hid (fitOf fits k ≠ []) := hid (by rw [HFL.out]; intro h; have := H0.out; rw [h] at this; simp at this)
        go_wp2_with fail
        refine (give_any S tb hb fits room HT.out HV.out hn hm HL.out k has _ hlt hto.out.part hneg.out HNE.out hkr.out hhr.out).mono ?_
        rintro e wd ⟨hod, ⟨rfl, h2, hok, hhd⟩ | ⟨H, A, c, rfl, hA, hno, hhd⟩⟩
        · have HOD := hid hod
          have HOK := hid hok
          have HHD := hid hhd
          clear hod hok hhd
          go_wp2_with fail
          go_roundg (fits.length - (k + 1))
          case measure => omega
          case rel => exact ⟨k + 1, h2, by omega, rfl, by go_num, hid (hto.out.next HO.out HOK.out), hid (hkr.out.only HV.out HOD.out), HHD, hid (hor.out.trans HOD.out)⟩
        · have HOD := hid hod
          have HNO := hid hno
          have HA := hid hA
          clear hod hno hhd hA
          go_wp2_with fail
          go_ret2
          exact ⟨hor.out.trans HOD.out, .inr ⟨H, A, c, rfl, HA.out, hto.out.stuck HO.out hout HNO.out⟩⟩
    · go_wp2_with fail
      go_ret2
      exact ⟨hor.out, .inl ⟨rfl, has, hto.out.done (by omega), hhr.out⟩⟩
end Go.Proofs.Ytpmdjbjnihhjeaa
