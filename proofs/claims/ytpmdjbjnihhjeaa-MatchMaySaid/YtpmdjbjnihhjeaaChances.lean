/- The slots that some assignment gives a find; what is asked first of a board, a find and a slot. -/
import Derived.Test.YtpmdjbjnihhjeaaWith
namespace Go.Proofs.Ytpmdjbjnihhjeaa
open Go.RowKit

open Classical in
/-- Some assignment gives the find the slot. -/
noncomputable def canB (fits : List (List Int)) (room : List Int) (f : Nat) (s : Int) : Bool := decide (∃ a, Asg fits room a ∧ hasOf a f = s)
theorem canB_true {fits : List (List Int)} {room : List Int} {f : Nat} {s : Int} : canB fits room f s = true ↔ ∃ a, Asg fits room a ∧ hasOf a f = s := by simp [canB]
noncomputable def chancesOf (fits : List (List Int)) (room : List Int) (f : Nat) : List Int := (fitOf fits f).filter (canB fits room f)
theorem filter_snoc {α : Type} (p : α → Bool) (l : List α) (k : Nat) (h : k < l.length) : (l.take (k + 1)).filter p = (l.take k).filter p ++ if p l[k] then [l[k]] else [] := by
  rw [List.take_succ_eq_append_getElem h, List.filter_append]
  simp [List.filter_cons]
theorem filter_take_le {α : Type} (p : α → Bool) (l : List α) (k : Nat) : ((l.take k).filter p).length ≤ k := by
  have h1 := List.length_filter_le p (l.take k)
  have h2 := List.length_take_le k l
  omega

set_option maxRecDepth 100000 in
set_option maxHeartbeats 8000000 in
theorem chances_any (w0 w : World) (tb hb rb : Nat) (b : Board) (room has : List Int) (hF : b.Fine) (hT : TriedAt w0 w tb hb rb b room has) (hA : Asg b.fits room has) (hin : Inside b.fits room.length) (hr : ∀ s : Int, 0 ≤ s → s < room.length → 1 ≤ roomOf room s ∧ roomOf room s ≤ 1000)
    (f : Nat) (hf : f < b.fits.length) :
    Calls Try.prog 57 #[.pointer (some ⟨tb, 0, none⟩), .int .i64 f] w fun e w' => ∃ v, e = .returned v ∧ w'.ownsRow w.heap.size 3 1 v (chancesOf b.fits room f).length (ints (chancesOf b.fits room f)) ∧ Below w.heap.size w w' := by
  obtain ⟨Af, As, At, cf, cs, ct, hB, h0, h1, h2⟩ := hT.board_now
  obtain ⟨fb, foff, rfl, hfc⟩ := hB.fits (by omega)
  obtain ⟨Aj, cj, f1, f2⟩ := hfc f hf
  have hlenL := hF.lens _ (List.getElem_mem hf)
  obtain ⟨L, hL⟩ : ∃ L, L = b.fits[f] := ⟨_, rfl⟩
  rw [← hL] at f1 f2 hlenL
  have HL : Hid (fitOf b.fits f = L) := hid ((fitOf_lt hf).trans hL.symm)
  have HF := hid hF
  have HT := hid hT
  have HA := hid hA
  have HIN := hid hin
  have HR := hid hr
  have HF2 := hid f2
  have hmf : ∀ (fn : Fn) (first cap : Array Value) (w : World), (Instr.makeFunc fn first cap).run Try.prog w = .ok (.func fn first cap) w := fun _ _ _ _ => rfl
  clear hB hF hT hA hin hr f2 hfc hL
  go_enter Try.func57, Try.ntmps57
  go_wp2_with fail
  clear h0 h1 h2 f1
  go_loopg [5, 22] (L.length) (fun g v i wr => ∃ k : Nat, k ≤ L.length ∧ g = L.length - k ∧ i = .int .i64 k ∧ Hid (wr.ownsRow w.heap.size 3 1 v ((L.take k).filter (canB b.fits room f)).length (ints ((L.take k).filter (canB b.fits room f)))) ∧ Hid (Below w.heap.size w wr))
  case atStart => exact ⟨0, by omega, by omega, rfl, hid (by simpa [ints] using World.ownsRow_nil _ _ _ _), hid (Below.refl _ _)⟩
  case round =>
    obtain ⟨k, hk, hgk, rfl, hown, hbw⟩ := hrel
    by_cases hlt : k < L.length
    · obtain ⟨ab, aoff, rfl, hc⟩ := HF2.out (by omega)
      have hcell := (Kept.of_below hbw.out) _ _ (hc k hlt)
      have hmem : L[k] ∈ fitOf b.fits f := by rw [HL.out]; exact List.getElem_mem hlt
      have hin2 := HIN.out f _ hmem
      have HSN := filter_snoc (canB b.fits room f) L k hlt
      have HSN := hid HSN
      clear hc hmem
      go_wp2_with fail
      refine (with_any w0 wr tb hb rb b room has HF.out (HT.out.below hbw.out) HA.out HIN.out HR.out f hf L[k] hin2.1).mono ?_
      rintro e w1 ⟨hb1, ⟨A, c, a, rfl, hAi, hAsg, ha⟩ | ⟨rfl, hno⟩⟩
      · have hcan : canB b.fits room f L[k] = true := canB_true.2 ⟨a, hAsg, ha⟩
        have HCAN := hid hcan
        have HB1 := hid hb1
        have hle := filter_take_le (canB b.fits room f) L k
        have hown1 := own_below hown.out hb1
        have hsz := hb1.size
        have hsz0 := hbw.out.size
        obtain ⟨v', w', hr2, ho', hg'⟩ := app_ints (w := w1.alloc (.cells #[.int .i64 L[k]] 3)) (c := 1) (A := some ⟨w1.heap.size, 0, none⟩) (ys := [L[k]]) (hown1.alloc _) (fun _ => ⟨w1.heap.size, 0, rfl, fun j hj => by
          have : j = 0 := by simpa using hj
          subst this; simp⟩) (by simp; omega) (by simp; omega)
        have HR2 := hid hr2
        have HO := hid ho'
        have HG := hid hg'
        have HO1 := hid hown1
        clear hb1 hAi hAsg ha hcan hown1 hr2 ho' hg' hsz hsz0
        go_wp2_with (at_builtin; refine wpList_app rfl rfl rfl rfl rfl HR2.out ?_)
        go_roundg (L.length - (k + 1))
        case measure => omega
        case rel =>
          refine ⟨k + 1, by omega, rfl, by go_num, hid ?_, hid ?_⟩
          · rw [HSN.out, if_pos HCAN.out]
            exact HO.out
          · exact ((hbw.out.trans (HB1.out.mono hbw.out.size)).alloc (Nat.le_trans hbw.out.size HB1.out.size) _).grown HG.out (by have := hbw.out.size; have := HB1.out.size; simp; omega) (fun g e => (HO1.out.lt g e).1)
      · have hcan : canB b.fits room f L[k] = false := by
          rcases h : canB b.fits room f L[k] with _ | _
          · rfl
          · obtain ⟨a, h1, h2⟩ := canB_true.1 h
            exact absurd h2 (hno a h1)
        have HCAN := hid hcan
        have HB1 := hid hb1
        clear hb1 hno hcan
        go_wp2_with fail
        go_roundg (L.length - (k + 1))
        case measure => omega
        case rel =>
          refine ⟨k + 1, by omega, rfl, by go_num, hid ?_, hid (hbw.out.trans (HB1.out.mono hbw.out.size))⟩
          rw [HSN.out, if_neg (by rw [HCAN.out]; simp), List.append_nil]
          exact own_below hown.out HB1.out
    · obtain rfl : k = L.length := by omega
      go_wp2_with fail
      go_ret
      refine ⟨_, rfl, ?_, hbw.out⟩
      have := hown.out
      rw [List.take_length] at this
      unfold chancesOf
      rw [HL.out]
      exact this
end Go.Proofs.Ytpmdjbjnihhjeaa
