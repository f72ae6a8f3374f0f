/- Assign's inner closure, walked. -/
import Derived.Test.YtpmdjbjnihhjeaaFirst
import Derived.Laws.EntriesVeiled
namespace Go.Proofs.Ytpmdjbjnihhjeaa
open Go.RowKit

structure NextMem (S : World) (cb bb ob nb gb og : Nat) (b : Board) : Prop where
  c0 : ∃ A c, S.cell? ⟨cb, 0, none⟩ = some (.slice A b.finds.length c) ∧ IntsAt S A b.finds
  c1 : ∃ A c, S.cell? ⟨cb, 1, none⟩ = some (.slice A b.slots.length c) ∧ SlotsAt S A b.slots
  c2 : ∃ A c, S.cell? ⟨cb, 2, none⟩ = some (.slice A b.fits.length c) ∧ (0 < b.fits.length → A = some ⟨gb, 0, none⟩)
  b2 : ∃ A c, S.cell? ⟨bb, 2, none⟩ = some (.slice A b.fits.length c) ∧ FitsAt S A b.fits
  o0 : ∃ c, S.cell? ⟨ob, 0, none⟩ = some (.slice (some ⟨og, 0, none⟩) b.fits.length c)
  n0 : S.cell? ⟨nb, 0, none⟩ = some (.func (.func 55) #[] #[.pointer (some ⟨cb, 0, none⟩), .pointer (some ⟨bb, 0, none⟩), .pointer (some ⟨ob, 0, none⟩), .pointer (some ⟨nb, 0, none⟩)])
  void : Void S [gb, og]
  ne : gb ≠ og

def NextPost (b : Board) (gb og : Nat) (w : World) (e : Ending) (w' : World) : Prop :=
  e = .returned (.tuple #[]) ∧ Only [gb, og] w w' ∧ ∃ out, IsFirst b out ∧ RowAt (Value.int .i64) w' og out

theorem Kept.bare_only {w w' : World} {x y : Nat} (ho : Only [x, y] w w') : Kept (bare (bare w x) y) (bare (bare w' x) y) := fun p v hp => by
  have hx := bare2_void w x y p v hp
  have hk := bare2_kept w x y p v hp
  simp only [List.mem_cons, List.not_mem_nil, or_false, not_or] at hx
  rw [bare_cell hx.2, bare_cell hx.1]
  exact (ho.cell (cell_lt hk) (by simp [hx])).trans hk
theorem FitsIn.set {w : World} {us : List Value} {ff : List (List Int)} (h : FitsIn w us ff) {k : Nat} {A : Option Addr} {c : Nat} {l : List Int} (hl : IntsAt w A l) : FitsIn w (us.set k (.slice A l.length c)) (ff.set k l) :=
  ⟨by rw [List.length_set, List.length_set]; exact h.1, fun j hj => by
    rw [List.length_set] at hj
    by_cases e : k = j
    · subst e
      exact ⟨A, c, by simp [h.1, hj], by simpa using hl⟩
    · obtain ⟨A', c', h1, h2⟩ := h.2 j hj
      exact ⟨A', c', by rw [List.getElem?_set, if_neg e, List.getElem_set, if_neg e]; exact h1, by rw [List.getElem_set, if_neg e]; exact h2⟩⟩
theorem RowAt.cells {w : World} {g : Nat} {us : List Value} (h : RowAt (fun v => v) w g us) : CellsAt w (some ⟨g, 0, none⟩) us := fun _ => ⟨g, 0, rfl, fun j u hj => by
  obtain ⟨hlt, rfl⟩ := List.getElem?_eq_some_iff.1 hj
  rw [Nat.zero_add]
  exact (h j hlt).1⟩

set_option maxRecDepth 100000 in
set_option maxHeartbeats 8000000 in
theorem next_any (S : World) (cb bb ob nb gb og : Nat) (b : Board) (hF : b.Fine) (hG : b.Good) (hM : NextMem S cb bb ob nb gb og b) :
    ∀ (m k : Nat) (cf : List (List Int)) (out : List Int) (us : List Value) (w : World), b.fits.length - k ≤ m → k ≤ b.fits.length → FirstTo b k cf out → Kept S w → FitsIn (bare (bare w gb) og) us cf → RowAt (fun v => v) w gb us → RowAt (Value.int .i64) w og out →
      Calls Try.prog 55 #[.int .i64 k, .pointer (some ⟨cb, 0, none⟩), .pointer (some ⟨bb, 0, none⟩), .pointer (some ⟨ob, 0, none⟩), .pointer (some ⟨nb, 0, none⟩)] w (NextPost b gb og w) := by
  intro m
  induction m using Nat.strongRecOn with
  | _ m ih =>
  intro k cf out us w hmk hkn hto hK hfit hus hout
  obtain ⟨⟨Af, cfn, c0, hAf⟩, ⟨As, cs, c1, hAs⟩, ⟨Ag, cg, c2, c2r⟩, ⟨At, ct, b2, hAt⟩, ⟨co, o0⟩, n0, hV, hne⟩ := hM
  have hn100 : b.fits.length ≤ 100 := by rw [hF.fits]; exact hF.finds
  have x2 := hK _ _ c2
  have HF := hid hF
  have HG := hid hG
  have HTO := hid hto
  have HK := hid hK
  have HFIT := hid hfit
  have HUS := hid hus
  have HOUT := hid hout
  have HAF := hid hAf
  have HAS := hid hAs
  have HAT := hid hAt
  have HV := hid hV
  have IH := hid ih
  clear hF hG hto hK hfit hus hout hAf hAs hAt hV ih
  by_cases hk : k = b.fits.length
  · have d1 : ((k : Int) == (b.fits.length : Int)) = true := beq_iff_eq.2 (by omega)
    have HKE := hid hk
    clear hk
    go_enter Try.func55, Try.ntmps55
    go_wp2_with fail
    go_step3
    go_wp2_with fail
    rw [Exit.noGoto_ret]
    refine bodyPost_ret (results_none rfl _ _ _) rfl ?_
    exact ⟨rfl, Only.refl _ _, out, HTO.out.done (by have := HKE.out; omega), HOUT.out⟩
  · have d1 : ((k : Int) == (b.fits.length : Int)) = false := beq_eq_false_iff_ne.2 (by omega)
    have hlt : k < b.fits.length := by omega
    have hAg := c2r (by omega)
    subst hAg
    obtain ⟨fb, foff, rfl, hfc⟩ := HAT.out (by omega)
    obtain ⟨Aj, cj, f1, f2⟩ := hfc k hlt
    have hlenL := HF.out.lens _ (List.getElem_mem hlt)
    have hrL := (rise_iff.1 (HG.out.fits _ (List.getElem_mem hlt))).1
    obtain ⟨L, hL⟩ : ∃ L, L = b.fits[k] := ⟨_, rfl⟩
    rw [← hL] at f1 f2 hlenL hrL
    have HL : Hid (fitOf b.fits k = L) := hid ((fitOf_lt hlt).trans hL.symm)
    have y2 := HK.out _ _ b2
    have yf := HK.out _ _ f1
    have HF2 := hid f2
    have HRL := hid hrL
    have hno0 : Hid (∀ c, b.As c → (∀ i, i < k → hasOf c i = hasOf out i) → hasOf c k ∉ L.take 0) := hid (fun _ _ _ => by simp)
    have hz1 : (0 : Int) ≤ k := by omega
    have hz2 : (k : Int) < b.fits.length := by omega
    clear hk hfc hL f2 hrL
    go_enter Try.func55, Try.ntmps55
    go_wp2_with fail
    go_step3
    go_wp2_with fail
    go_step3
    go_wp2_with fail
    clear x2 y2 yf
    go_loopg [21] (L.length) (fun g i wr => ∃ (j : Nat) (cj : List (List Int)) (uj : List Value), j ≤ L.length ∧ g = L.length - j ∧ i = .int .i64 j ∧ Hid (∀ c, b.As c → (∀ i, i < k → hasOf c i = hasOf out i) → hasOf c k ∉ L.take j) ∧ Hid (∀ v, cj.set k v = cf.set k v) ∧ Hid (j = 0 → cj = cf) ∧
      Hid (Kept S wr) ∧ Hid (FitsIn (bare (bare wr gb) og) uj cj) ∧ Hid (RowAt (fun v => v) wr gb uj) ∧ Hid (RowAt (Value.int .i64) wr og out) ∧ Hid (Only [gb, og] w wr))
    case atStart => exact ⟨0, cf, us, by omega, by omega, rfl, hno0, hid (fun _ => rfl), hid (fun _ => rfl), HK, HFIT, HUS, HOUT, hid (Only.refl _ _)⟩
    case round =>
      obtain ⟨j, cj, uj, hj, hgj, rfl, hno, hset, hzero, hkr, hfr, hur, hor, hwr⟩ := hrel
      by_cases hjl : j < L.length
      · obtain ⟨ab, aoff, rfl, hac⟩ := HF2.out (by omega)
        have hcell := hkr.out _ _ (hac j hjl)
        obtain ⟨s, hs⟩ : ∃ s, s = L[j] := ⟨_, rfl⟩
        rw [← hs] at hcell
        have HSJ := hid hs
        have e2 := hkr.out _ _ c2
        have hul : uj.length = b.fits.length := by
          have h1 := hfr.out.1
          have h2 := congrArg List.length (hset.out [])
          rw [List.length_set, List.length_set] at h2
          rw [h1, h2]; exact HTO.out.len
        have hku : k < uj.length := by rw [hul]; exact hlt
        have e3 := (hur.out k hku).1
        have e3f := (hur.out k hku).2
        have hgl : gb < wr.heap.size := cell_lt e3
        have hko : k < out.length := by rw [HTO.out.lenO]; exact hlt
        have hol : og < wr.heap.size := cell_lt (hor.out k hko).1
        -- the world behind the store
        have hW2 : ∃ W2, (wr.alloc (.cells #[.int .i64 s] 3)).setCell ⟨gb, k, none⟩ (.slice (some ⟨wr.heap.size, 0, none⟩) 1 1) = W2 := ⟨_, rfl⟩
        obtain ⟨W2, hW2⟩ := hW2
        have o2 : Only [gb, og] wr W2 := by rw [← hW2]; exact ((Only.refl _ _).alloc _).setCell (by simp) _
        have hur2 : RowAt (fun v => v) W2 gb (uj.set k (.slice (some ⟨wr.heap.size, 0, none⟩) 1 1)) := by
          rw [← hW2]
          exact (hur.out.below ((Below.refl _ _).alloc (Nat.le_refl _) _)).set k _
        have hfr2 : FitsIn (bare (bare W2 gb) og) (uj.set k (.slice (some ⟨wr.heap.size, 0, none⟩) 1 1)) (cf.set k [s]) := by
          rw [← hset.out [s]]
          refine FitsIn.set (l := [s]) (hfr.out.kept (Kept.bare_only o2)) (fun _ => ⟨wr.heap.size, 0, rfl, fun i hi => ?_⟩)
          have hi0 : i = 0 := by simpa using hi
          subst hi0
          rw [bare_cell (p := ⟨wr.heap.size, 0 + 0, none⟩) (show wr.heap.size ≠ og by omega), bare_cell (p := ⟨wr.heap.size, 0 + 0, none⟩) (show wr.heap.size ≠ gb by omega), ← hW2, World.cell?_setCell_other _ _ _ _ (fun e => by have := (Addr.mk.inj e).1; omega)]
          simp
        have k2 := hkr.out.only HV.out o2
        have hor2 : RowAt (Value.int .i64) W2 og out := by
          rw [← hW2]
          exact (hor.out.below ((Below.refl _ _).alloc (Nat.le_refl _) _)).setOther (p := ⟨gb, k, none⟩) hne _
        have q0 := k2 _ _ c0
        have q1 := k2 _ _ c1
        have q2 := k2 _ _ c2
        have hmem : s ∈ fitOf b.fits k := by rw [HL.out, hs]; exact List.getElem_mem hjl
        have hcF := HTO.out.fine HF.out hlt [s] (fun x hx => by rw [List.mem_singleton] at hx; rw [hx]; exact hmem) (by simp)
        have hBc : BoardAt W2 Af As (some ⟨gb, 0, none⟩) (Board.mk b.finds b.slots (cf.set k [s])) := ⟨HAF.out.kept k2, HAS.out.kept k2, (hfr2.kept (bare2_kept _ _ _)).at_ hur2.cells⟩
        have hlc : (cf.set k [s]).length = b.fits.length := by rw [List.length_set]; exact HTO.out.len
        have hsome := some_any (Board.mk b.finds b.slots (cf.set k [s])) Af As (some ⟨gb, 0, none⟩) cfn cs cg W2 hcF hBc
        rw [show (Board.mk b.finds b.slots (cf.set k [s])).fits.length = b.fits.length from hlc] at hsome
        have HSOME := hid hsome
        have HU2 := hid hur2
        have HFR2 := hid hfr2
        have K2 := hid k2
        have HO2 := hid hor2
        have O2 := hid (hwr.out.trans o2)
        have HMEM := hid hmem
        have HCF := hid hcF
        clear hac hs hul o2 hur2 hfr2 k2 hor2 hmem hcF hBc hlc hsome
        go_wp2_with fail
        refine HSOME.out.mono ?_
        rintro e w3 ⟨tb, ⟨rfl, w0, hb, rb, has, h01, hT, hA⟩ | ⟨rfl, hb3, H, hS⟩⟩
        · have hb3 : Below W2.heap.size W2 w3 := h01.trans (hT.kept.mono h01.size)
          obtain ⟨a1, a2, a3⟩ := (HTO.out.try_ hlt HMEM.out has).1 hA
          have hto2 := hid (HTO.out.take hlt (by rw [HL.out]; exact hjl) (by simp only [HL.out]; exact HSJ.out.symm) (by rw [HL.out]; exact HRL.out) (by rw [HL.out]; exact hno.out) ⟨has, a1, a2, a3⟩)
          have k3 := K2.out.only HV.out (Only.of_below hb3)
          have hor3 := HO2.out.below hb3
          have r0 := k3 _ _ o0
          have r1 := (hor3 k hko).1
          have r1f := (hor3 k hko).2
          have rn := k3 _ _ n0
          obtain ⟨W4, hW4⟩ : ∃ W4, w3.setCell ⟨og, k, none⟩ (.int .i64 s) = W4 := ⟨_, rfl⟩
          have o4 : Only [gb, og] w3 W4 := by rw [← hW4]; exact (Only.refl _ _).setCell (by simp) _
          have k4 := hid (k3.only HV.out o4)
          have rn4 := k4.out _ _ n0
          have hor4 : Hid (RowAt (Value.int .i64) W4 og (out.set k s)) := hid (by rw [← hW4]; exact hor3.set k s)
          have hur4 : Hid (RowAt (fun v => v) W4 gb (uj.set k (.slice (some ⟨wr.heap.size, 0, none⟩) 1 1))) := hid (by rw [← hW4]; exact (HU2.out.below hb3).setOther (p := ⟨og, k, none⟩) hne.symm _)
          have hfr4 := hid ((HFR2.out.kept (Kept.bare_only (Only.of_below hb3))).kept (Kept.bare_only o4))
          have O4 := hid ((O2.out.then hb3).trans o4)
          clear h01 hT hA hb3 a1 a2 a3 k3 hor3 o4 e2 e3 e3f q0 q1 q2 hcell
          go_wp2_with fail
          rw [show (k : Int) + 1 = ((k + 1 : Nat) : Int) from by omega]
          refine (IH.out (b.fits.length - (k + 1)) (by omega) (k + 1) _ _ _ W4 (Nat.le_refl _) (by omega) hto2.out k4.out hfr4.out hur4.out hor4.out).mono ?_
          rintro e w5 ⟨rfl, ho5, o5, hf5, hr5⟩
          have HO5 := hid ho5
          have HF5 := hid hf5
          have HR5 := hid hr5
          clear ho5 hf5 hr5
          go_wp2_with fail
          rw [Exit.noGoto_normal]
          go_end0
          exact ⟨rfl, O4.out.trans HO5.out, o5, HF5.out, HR5.out⟩
        · have hcno : Hid (¬ ∃ c, Asg (cf.set k [s]) (pieces b.slots) c) := hid (fun ⟨c, hc⟩ => Asg.no_short (HCF.out.inside) hc hS)
          have k3 := hid (K2.out.only HV.out (Only.of_below hb3))
          have hor3 := hid (HO2.out.below hb3)
          have hur3 := hid (HU2.out.below hb3)
          have hfr3 := hid (HFR2.out.kept (Kept.bare_only (Only.of_below hb3)))
          have O3 := hid (O2.out.then hb3)
          clear hb3 hS
          go_wp2_with fail
          go_roundg (L.length - (j + 1))
          case measure => omega
          case rel =>
            refine ⟨j + 1, cf.set k [s], _, by omega, rfl, by go_num, hid (fun c hc hp hx => ?_), hid (fun v => by rw [List.set_set]), hid (fun h => by omega), k3, hfr3, hur3, hor3, O3⟩
            rw [List.take_succ_eq_append_getElem hjl] at hx
            simp only [List.mem_append, List.mem_singleton] at hx
            rcases hx with hx | hx
            · exact hno.out c hc hp hx
            · exact hcno.out ⟨c, (HTO.out.try_ hlt HMEM.out c).2 ⟨hc, hp, by rw [hx, HSJ.out]⟩⟩
      · have hnone : fitOf b.fits k = [] := HTO.out.none_left (by rw [HL.out]; have := hno.out; rwa [List.take_of_length_le (by omega)] at this)
        have hL0 : L = [] := by rw [← HL.out]; exact hnone
        have hj0 : j = 0 := by rw [hL0] at hj; simpa using hj
        have hcj := hzero.out hj0
        rw [hcj] at hfr
        have rn := hkr.out _ _ n0
        have HNONE := hid hnone
        clear hnone hL0 hj0 hcj
        go_wp2_with fail
        rw [show (k : Int) + 1 = ((k + 1 : Nat) : Int) from by omega]
        refine (IH.out (b.fits.length - (k + 1)) (by omega) (k + 1) _ _ _ wr (Nat.le_refl _) (by omega) (HTO.out.skip HNONE.out) hkr.out hfr.out hur.out hor.out).mono ?_
        rintro e w5 ⟨rfl, ho5, o5, hf5, hr5⟩
        have HO5 := hid ho5
        have HF5 := hid hf5
        have HR5 := hid hr5
        clear ho5 hf5 hr5
        go_wp2_with fail
        rw [Exit.noGoto_normal]
        go_end0
        exact ⟨rfl, hwr.out.trans HO5.out, o5, HF5.out, HR5.out⟩
end Go.Proofs.Ytpmdjbjnihhjeaa
