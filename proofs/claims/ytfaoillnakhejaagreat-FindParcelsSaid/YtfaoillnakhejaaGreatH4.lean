/- Check. -/
import Derived.Test.YtfaoillnakhejaaGreatG14
import Derived.Deep.CutRange
namespace Go.Proofs.YtfaoillnakhejaaGreat
set_option maxRecDepth 100000
section
open Go.RowKit
set_option linter.unusedSimpArgs false
/-- What Check says of a list: that it is valid, or the first report that is refused, and why. -/
def CheckIs (l : List Rep) (i e : Int) : Prop := (Valid l ∧ i = 0 ∧ e = 0) ∨ ∃ k : Nat, ∃ h : k < l.length, Valid (l.take k) ∧ follows (l.take k) l[k] = e ∧ e ≠ 0 ∧ i = k
theorem enters68 : Enters 60 := fun args w => by kernel_rfl
theorem Valid.take_snoc {l : List Rep} {k : Nat} (h : k < l.length) (hv : Valid (l.take k)) (hf : follows (l.take k) l[k] = 0) : Valid (l.take (k + 1)) := by
 rw [List.take_succ_eq_append_getElem h]
 exact hv.snoc hf
set_option maxHeartbeats 8000000 in
theorem check_any (A : Option Addr) (cap : Nat) (L : List Ent) (w : World) (hA : EntsAt w A L) (hl : L.length ≤ 210) (hcap : L.length ≤ cap) :
  Calls Tryz.prog 22 #[.slice A L.length cap] w fun e w' => (∃ i en, e = .returned (.tuple #[.int .i64 i, .int .i64 en]) ∧ CheckIs (reps L) i en) ∧ Below w.heap.size w w' := by
 have HE := hid hA
 have HCAP := hid hcap
 clear hA hcap
 go_enter Tryz.func22, Tryz.ntmps22
 go_wp2_with fail
 go_loopg [9] (L.length) (fun g i wr => ∃ k : Nat, k ≤ L.length ∧ g = L.length - k ∧ i = .int .i64 k ∧ Hid (Valid ((reps L).take k)) ∧ Hid (Below w.heap.size w wr))
 case atStart => exact ⟨0, by omega, by omega, rfl, hid (by rw [List.take_zero]; exact Valid.nil), hid (Below.refl _ _)⟩
 case round =>
  obtain ⟨k, hk, hgk, rfl, hv, hbw⟩ := hrel
  by_cases hlt : k < L.length
  ·have hE := HE.out.below hbw.out
   obtain ⟨b, off, hAe, hc⟩ := hE.rows (by omega)
   subst hAe
   have hrange := hc k hlt
   have i0 : (0 : Int) ≤ k := by omega
   have i1 : (k : Int) < L.length := by omega
   have i2 : (k : Int) ≤ L.length := by omega
   have i3 : (k : Int) ≤ cap := by have := HCAP.out; omega
   have hkr : k < (reps L).length := by simpa using hlt
   have hpt := hE.parts L[k] (List.getElem_mem hlt)
   have hrx : (reps L)[k] = L[k].1 := by simp
   have hsn := hv.out.take_snoc hkr
   have hbad : ∀ e, follows ((reps L).take k) (reps L)[k] = e → e ≠ 0 → CheckIs (reps L) k e := fun e h1 h2 => .inr ⟨k, hkr, hv.out, h1, h2, rfl⟩
   rw [hrx] at hsn hbad
   have htk : (L.take k).length = k := by simp; omega
   have hrt : reps (L.take k) = (reps L).take k := by simp [List.map_take]
   obtain ⟨⟨x, P, c⟩, hx⟩ : ∃ y, L[k] = y := ⟨_, rfl⟩
   rw [hx] at hrange hsn hbad hpt
   dsimp only at hrange hsn hbad
   obtain ⟨E, hE2⟩ : ∃ E, follows ((reps L).take k) x = E := ⟨_, rfl⟩
   have hfo := fun W2 (hb : Below wr.heap.size wr W2) => follows_any (some ⟨b, off, none⟩) k (L.take k) x P c W2 ((hE.below hb).take k) (by omega) (by rw [hrt]; exact hv.out) (hpt.kept (Kept.of_below hb))
   simp only [htk, hrt, hE2] at hfo
   rw [hE2] at hsn hbad
   have HFO := hid hfo
   have HR := hid hrange
   have HSN := hid hsn
   have HBAD := hid hbad
   clear hE hc hrange hkr hpt hrx hsn hbad htk hrt hx hE2 hfo
   go_upto_region 4 with (first | refine load_rep_mid rfl _ rfl _ _ rfl HR.out ?_ | (refine store_rep_new rfl _ _ rfl rfl rfl rfl rfl ?_; intro W2 hbx2 hb2 hlt2; have HX2 := hid hbx2; have HB2 := hid hb2; clear hbx2 hb2))
   go_frame
   go_cut [6] from 14 to 19 (fun s6 wx => s6 = .int .i64 E ∧ Below wr.heap.size wr wx)
   case first =>
    have hcl := HFO.out W2.drew HB2.out.drew
    have HCL := hid hcl
    obtain ⟨c0, c1, c2, c3, c4, c5, c6, c7, c8, c9, c10, c11, c12, c13, c14⟩ := HX2.out.at_
    clear hcl
    go_region_law (first
     | (refine step_call rfl #[.tmp 17, .tmp 18] 60 #[22, 46] rfl enters68 #[.slice (some ⟨b, off, none⟩) k k, x.val P c] ?hs (fun u w' => u = .int .i64 E ∧ Below W2.drew.heap.size W2.drew w') (HCL.out.mono (fun e w' h => ⟨_, h.1, rfl, h.2⟩)) ?_
        case hs => simp [Act.eval, Act.put, Rep.val, Rep.cells]
        rintro u w3 ⟨rfl, hb3⟩
        have HB3 := hid (HB2.out.drew.trans (hb3.mono HB2.out.size))
        clear hb3))
    all_goals
     go_wp2_with fail
     go_meet
     case rel => exact ⟨rfl, HB3.out⟩
   case rest =>
    obtain ⟨rfl, hb9⟩ := hcut
    have HB9 := hid (hbw.out.trans (hb9.mono hbw.out.size))
    clear hb9 HX2 HB2
    by_cases h0 : E = 0
    ·subst h0
     go_wp2_with fail
     go_roundg (L.length - (k + 1))
     case measure => omega
     case rel => exact ⟨k + 1, by omega, rfl, by go_num, hid (HSN.out trivial), HB9⟩
    ·have d0 : (E != 0) = true := bne_iff_ne.2 h0
     have HBX := hid (HBAD.out E rfl h0)
     clear h0
     go_wp2_with fail
     go_ret2
     exact ⟨⟨_, _, rfl, HBX.out⟩, HB9.out⟩
  ·obtain rfl : k = L.length := by omega
   have hv2 := hv.out
   rw [List.take_of_length_le (by simp)] at hv2
   have HV := hid hv2
   clear hv2
   go_wp2_with fail
   go_ret2
   exact ⟨⟨_, _, rfl, .inl ⟨HV.out, rfl, rfl⟩⟩, hbw.out⟩
end
end Go.Proofs.YtfaoillnakhejaaGreat
