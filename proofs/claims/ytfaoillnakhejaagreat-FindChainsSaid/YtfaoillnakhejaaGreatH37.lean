/- The law FindChains walked: it returns true. -/
import Derived.Test.YtfaoillnakhejaaGreatH36
import Derived.Test.YtfaoillnakhejaaGreatH19
import Derived.Test.YtfaoillnakhejaaGreatH29
namespace Go.Proofs.YtfaoillnakhejaaGreat
set_option maxRecDepth 100000
open Go.RowKit
theorem chains_same {L : List Ent} {K a b : Int} {R : Option (List Int)} {w w' v v' : World} {e f : Ending} (hl : ∀ l, R = some l → l.length ≤ 2000)
  (hR : Valid (reps L) → (∃ ids, IdsOf (countE L K) ids ∧ a ∈ ids ∧ b ∈ ids) → (R = none ∧ ¬ ∃ l, Ch (countE L K) b l a) ∨ ∃ l, R = some l ∧ Best (countE L K) b l a)
  (h : ChainPost L K a b R w e w') (k : RChainPost L K a b v f v') : ∃ en ys, AnsI e w' en ys ∧ AnsI f v' en ys ∧ ys.length ≤ 2000 := by
 have hin : ∀ {ids : List Int}, a ∈ ids → b ∈ ids → ∀ x ∈ [a, b], x ∈ ids := fun h1 h2 x hx => by
  rcases List.mem_cons.1 hx with rfl | hx
  ·exact h1
  ·rw [List.mem_singleton] at hx; rw [hx]; exact h2
 rcases h.2 with ⟨er, hf, rfl⟩ | ⟨hv, ids, hi, ha, hb, hm⟩
 ·rcases k.2 with ⟨fr, hk, rfl⟩ | ⟨hv, D, hD, h1, h2, _⟩
  ·rw [fails_same hf hk]
   exact ⟨fr, [], ansI_nil rfl, ansI_nil rfl, by simp⟩
  ·exact absurd hf (no_fails hv (pcls_ids (by rw [countE_reps]; exact hv.sound K) hD) (hin h1 h2))
 ·rcases k.2 with ⟨fr, hk, rfl⟩ | ⟨_, D, hD, h1, h2, hd⟩
  ·exact absurd hk (no_fails hv hi (hin ha hb))
  ·rcases hR hv ⟨ids, hi, ha, hb⟩ with ⟨rfl, hno⟩ | ⟨l, rfl, hbest⟩
   ·rcases hd with ⟨_, rfl⟩ | ⟨xs, u, hbx, _, _⟩
    ·exact ⟨5, [], ansI_nil hm, ansI_nil rfl, by simp⟩
    ·exact absurd ⟨xs, hbx.ch⟩ hno
   ·obtain ⟨u, he, ho⟩ := hm
    rcases hd with ⟨hno, _⟩ | ⟨xs, u2, hbx, rfl, ho2⟩
    ·exact absurd ⟨l, hbest.ch⟩ hno
    ·have := hbest.same hbx
     subst this
     exact ⟨0, l, ansI_own he ho, ansI_own rfl ho2, hl l rfl⟩
theorem cchain_same {L : List Ent} {K a b : Int} {chain : List Int} {w w' v v' : World} {e f : Ending} (h : CChainPost L K a b chain w e w') (k : RCChainPost L K a b chain v f v') :
  ∃ t en, e = .returned (.tuple #[.bool t, .int .i64 en]) ∧ f = .returned (.tuple #[.bool t, .int .i64 en]) := by
 have hin : ∀ {ids : List Int}, a ∈ ids → b ∈ ids → ∀ x ∈ [a, b], x ∈ ids := fun h1 h2 x hx => by
  rcases List.mem_cons.1 hx with rfl | hx
  ·exact h1
  ·rw [List.mem_singleton] at hx; rw [hx]; exact h2
 rcases h.2 with ⟨er, hf, rfl⟩ | ⟨hv, ids, hi, ha, hb, rfl⟩
 ·rcases k.2 with ⟨fr, hk, rfl⟩ | ⟨hv, ⟨ids, hi, ha, hb⟩, _⟩
  ·rw [fails_same hf hk]
   exact ⟨_, _, rfl, rfl⟩
  ·exact absurd hf (no_fails hv hi (hin ha hb))
 ·rcases k.2 with ⟨fr, hk, rfl⟩ | ⟨_, _, rfl⟩
  ·exact absurd hk (no_fails hv hi (hin ha hb))
  ·exact ⟨_, _, rfl, rfl⟩
theorem chain_form {L : List Ent} {K a b : Int} {R : Option (List Int)} {w w' : World} {e : Ending} (h : ChainPost L K a b R w e w') : ∃ A n k en, e = .returned (.tuple #[.slice A n k, .int .i64 en]) := by
 rcases h.2 with ⟨_, _, he⟩ | ⟨_, _, _, _, _, hm⟩
 ·exact ⟨_, _, _, _, he⟩
 ·rcases R with _ | l
  ·exact ⟨_, _, _, _, hm⟩
  ·obtain ⟨v, he, ho⟩ := hm
   obtain ⟨A, k, rfl, _⟩ := ownsRow.form ho
   exact ⟨_, _, _, _, he⟩
theorem rchain_form {L : List Ent} {K a b : Int} {w w' : World} {e : Ending} (h : RChainPost L K a b w e w') : ∃ A n k en, e = .returned (.tuple #[.slice A n k, .int .i64 en]) := by
 rcases h.2 with ⟨_, _, he⟩ | ⟨_, _, _, _, _, ⟨_, he⟩ | ⟨_, _, _, he, ho⟩⟩
 ·exact ⟨_, _, _, _, he⟩
 ·exact ⟨_, _, _, _, he⟩
 ·obtain ⟨A, k, rfl, _⟩ := ownsRow.form ho
  exact ⟨_, _, _, _, he⟩
theorem cchain_form {L : List Ent} {K a b : Int} {chain : List Int} {w w' : World} {e : Ending} (h : CChainPost L K a b chain w e w') : ∃ t en, e = .returned (.tuple #[.bool t, .int .i64 en]) := by
 rcases h.2 with ⟨_, _, he⟩ | ⟨_, _, _, _, _, he⟩ <;> exact ⟨_, _, he⟩
theorem bans_form {t s : Bool} {en fn : Int} (h : Ending.returned (.tuple #[.bool t, .int .i64 en]) = .returned (.tuple #[.bool s, .int .i64 fn])) : t = s ∧ en = fn := by
 injection h with e
 injection e with e
 simpa using e
theorem ans_form {A : Option Addr} {n k : Nat} {en fn : Int} {w' : World} {ys : List Int} (h : AnsI (.returned (.tuple #[.slice A n k, .int .i64 en])) w' fn ys) : n = ys.length ∧ en = fn ∧ IntsAt w' A ys := by
 obtain ⟨B, c, e, hi⟩ := h
 injection e with e
 injection e with e
 simp only [Array.mk.injEq, List.cons.injEq, Value.slice.injEq, Value.int.injEq, and_true, true_and] at e
 obtain ⟨⟨rfl, rfl, rfl⟩, rfl⟩ := e
 exact ⟨rfl, rfl, hi⟩
set_option maxHeartbeats 16000000 in
theorem findChains_any (A : Option Addr) (cap : Nat) (L : List Ent) (K p1 p2 : Int) (PA : Option Addr) (pc : Nat) (chain : List Int) (w : World) (hA : RepsAt w A L) (hcap : L.length ≤ cap) (hP : IntsAt w PA chain) (hpc : (chain.length : Int) ≤ 9223372036854775807) :
  Calls Tryz.prog 4 #[.slice A L.length cap, .int .i64 K, .int .i64 p1, .int .i64 p2, .slice PA chain.length pc] w fun e w' => e = .returned (.bool true) ∧ Below w.heap.size w w' := by
 have hfw := few_any A cap L 12 w hA.rows (by omega) (by omega)
 obtain ⟨b, hb⟩ : ∃ b, fewB (reps L) 12 = b := ⟨_, rfl⟩
 rw [hb] at hfw
 have HF := hid hfw
 have HB := hid hb
 have HA := hid hA
 have HP := hid hP
 have HCAP := hid hcap
 clear hA hb hfw hcap hP
 go_enter Tryz.func4, Tryz.ntmps4
 go_wp2_with fail
 refine HF.out.mono ?_
 rintro e w1 ⟨rfl, rfl⟩
 clear HF
 rcases b with _ | _
 ·go_wp2_with fail
  refine (sane_any w1).mono ?_
  rintro e w2 ⟨rfl, hb2⟩
  have HB2 := hid hb2
  clear hb2
  go_wp2_with fail
  go_ret
  exact ⟨rfl, HB2.out⟩
 by_cases hlen : 20 < chain.length
 ·go_wp2_with fail
  refine (sane_any w1).mono ?_
  rintro e w2 ⟨rfl, hb2⟩
  have HB2 := hid hb2
  clear hb2
  go_wp2_with fail
  go_ret
  exact ⟨rfl, HB2.out⟩
 have hfs := few_small HB.out (by omega)
 have HL : Hid (L.length ≤ 210) := hid (by have := hfs.1; rw [List.length_map] at this; omega)
 have HSZ : Hid (∀ e ∈ L, e.1.mark.size ≤ 1000000 ∧ e.1.goods.size ≤ 1000000) := hid (fun e he => by have := hfs.2 e.1 (List.mem_map_of_mem (f := Prod.fst) he); omega)
 have HE : Hid (EntsAt w1 A L) := hid (HA.out.ents (fun e he => by have := hfs.2 e.1 (List.mem_map_of_mem (f := Prod.fst) he); omega))
 have hex : ∃ R : Option (List Int), (∀ l, R = some l → l.length ≤ 2000) ∧ (Valid (reps L) → (∃ ids, IdsOf (countE L K) ids ∧ p1 ∈ ids ∧ p2 ∈ ids) → chainF (countE L K) p1 p2 = some R ∧ ((R = none ∧ ¬ ∃ l, Ch (countE L K) p2 l p1) ∨ ∃ l, R = some l ∧ Best (countE L K) p2 l p1)) := by
  by_cases hv : Valid (reps L) ∧ ∃ ids, IdsOf (countE L K) ids ∧ p1 ∈ ids ∧ p2 ∈ ids
  ·obtain ⟨hv, ids, hi, h1, h2⟩ := hv
   have hsound : Sound (reps (countE L K)) := by rw [countE_reps]; exact hv.sound K
   have hcl : (countE L K).length ≤ 100 := by have := few_valid HB.out hv; have := countE_len L K; omega
   obtain ⟨R, hR, hRB⟩ := chain_ok hsound hcl (a := p1) (t := p2) (made_isSome.1 ((hi.2 p2).1 h2).1)
   refine ⟨R, fun l hl => ?_, fun _ _ => ⟨hR, hRB⟩⟩
   rcases hRB with ⟨h, _⟩ | ⟨l2, h, h2⟩
   ·rw [h] at hl; cases hl
   ·rw [h] at hl
    cases hl
    have := ch_len hsound h2.ch
    omega
  ·exact ⟨none, fun l hl => (by cases hl), fun h1 h2 => absurd ⟨h1, h2⟩ hv⟩
 obtain ⟨R, hrl, hrb⟩ := hex
 have HRL := hid hrl
 have HRB := hid hrb
 have HC1 := hid (chain_any A cap L K p1 p2 w1 HE.out HL.out HCAP.out (R := R) (fun h1 h2 => (HRB.out h1 h2).1))
 clear hfs HA hrl hrb
 go_wp2_with fail
 refine HC1.out.mono ?_
 rintro e w2 hp
 obtain ⟨A2, n2, k2, en2, rfl⟩ := chain_form hp
 have HP2 := hid hp
 have HB2 := hid hp.1
 have HE2 := hid (HE.out.below hp.1)
 have HC2 := hid (rchain_any A cap L K p1 p2 w2 HE2.out HL.out HCAP.out HSZ.out)
 clear hp HC1
 go_wp2_with fail
 refine HC2.out.mono ?_
 rintro e w3 hp
 obtain ⟨A3, n3, k3, en3, rfl⟩ := rchain_form hp
 obtain ⟨en, ys, ha, hb, hy⟩ := chains_same HRL.out (fun h1 h2 => (HRB.out h1 h2).2) HP2.out hp
 obtain ⟨rfl, rfl, hi2⟩ := ans_form ha
 obtain ⟨rfl, rfl, hi3⟩ := ans_form hb
 have HI2 := hid (hi2.kept (Kept.of_below hp.1))
 have HI3 := hid hi3
 have HY := hid hy
 have HB3 := hid (HB2.out.trans (hp.1.mono HB2.out.size))
 have HE3 := hid (HE2.out.below hp.1)
 have HC3 := hid (checkChain_any A cap L K p1 p2 PA pc chain w3 HE3.out HL.out HCAP.out (HP.out.kept (Kept.of_below HB3.out)) (by omega))
 clear hp ha hb hi2 hi3 hy HC2 HP2
 go_wp2_with fail
 refine HC3.out.mono ?_
 rintro e w4 hp
 obtain ⟨t4, en4, rfl⟩ := cchain_form hp
 have HP4 := hid hp
 have HB4 := hid (HB3.out.trans (hp.1.mono HB3.out.size))
 have HE4 := hid (HE3.out.below hp.1)
 have HI24 := hid (HI2.out.kept (Kept.of_below hp.1))
 have HI34 := hid (HI3.out.kept (Kept.of_below hp.1))
 have HC4 := hid (rcheckChain_any A cap L K p1 p2 PA pc chain w4 HE4.out HL.out HCAP.out HSZ.out (HP.out.kept (Kept.of_below HB4.out)) (by omega))
 clear hp HC3
 go_wp2_with fail
 refine HC4.out.mono ?_
 rintro e w5 hp
 obtain ⟨t5, en5, h4, rfl⟩ := cchain_same HP4.out hp
 obtain ⟨rfl, rfl⟩ := bans_form h4
 have HI25 := hid (HI24.out.kept (Kept.of_below hp.1))
 have HI35 := hid (HI34.out.kept (Kept.of_below hp.1))
 have HB5 := hid (HB4.out.trans (hp.1.mono HB4.out.size))
 clear hp h4 HC4 HP4
 go_wp2_with fail
 refine (sane_any w5).mono ?_
 rintro e w6 ⟨rfl, hb6⟩
 have HB6 := hid (HB5.out.trans (hb6.mono HB5.out.size))
 have HI2 := hid (HI25.out.kept (Kept.of_below hb6))
 have HI3 := hid (HI35.out.kept (Kept.of_below hb6))
 have HS1 := hid (same_lit (k := k2) (cb := k3) (xs := ys) (by have := HY.out; omega) HI2.out HI3.out)
 clear hb6
 go_wp2_with fail
 refine HS1.out.mono ?_
 rintro e w7 ⟨rfl, hb7⟩
 have HB7 := hid (HB6.out.trans (hb7.mono HB6.out.size))
 clear hb7
 rcases t4 with _ | _
 ·go_wp2_with fail
  go_ret
  exact ⟨rfl, HB7.out⟩
 ·go_wp2_with fail
  go_ret
  exact ⟨rfl, HB7.out⟩
end Go.Proofs.YtfaoillnakhejaaGreat
