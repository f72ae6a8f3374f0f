/- all, whole: all assignments of a board, by recursion. -/
import Derived.Test.YtpmdjbjnihhjeaaAllWalk
set_option linter.unusedSimpArgs false
namespace Go.Proofs.Ytpmdjbjnihhjeaa
open Go.RowKit

theorem ListsOwn.append {w : World} {base : Nat} {us vs : List Value} {ls ms : List (List Int)} (h : ListsOwn w base us ls) (k : ListsOwn w base vs ms) : ListsOwn w base (us ++ vs) (ls ++ ms) := by
  refine ⟨by simp [h.1, k.1], fun j hj => ?_⟩
  rcases Nat.lt_or_ge j ls.length with hlt | hge
  · obtain ⟨u, h1, h2⟩ := h.2 j hlt
    refine ⟨u, by rw [List.getElem?_append_left (by rw [h.1]; exact hlt)]; exact h1, ?_⟩
    rw [List.getElem_append_left hlt]; exact h2
  · rw [List.length_append] at hj
    obtain ⟨u, h1, h2⟩ := k.2 (j - ls.length) (by omega)
    refine ⟨u, by rw [List.getElem?_append_right (by rw [h.1]; exact hge), h.1]; exact h1, ?_⟩
    rw [List.getElem_append_right hge]; exact h2
theorem ListsOwn.one {w : World} {base : Nat} {us : List Value} {ls : List (List Int)} (h : ListsOwn w base us ls) : ∀ u ∈ us, u.oneCell' = true := fun u hu => by
  obtain ⟨j, hj, rfl⟩ := List.getElem_of_mem hu
  obtain ⟨v, h1, h2⟩ := h.2 j (by rw [← h.1]; exact hj)
  obtain ⟨A, c, rfl, _⟩ := ownsRow.form h2
  rw [List.getElem?_eq_getElem hj] at h1
  rw [Option.some.inj h1]
  rfl
/-- More lists behind those that there are: M all together. -/
def MoreLists (B : Nat) (V : World) (us : List Value) (M : List (List Int)) (v : Value) (w' : World) : Prop :=
  ∃ vs, w'.ownsRow B 22 1 v M.length (us ++ vs) ∧ ListsOwn w' B (us ++ vs) M ∧ Below B V w' ∧ ∃ A c, v = .slice A M.length c
theorem more_lists {V : World} {B : Nat} {v : Value} {us : List Value} {ls ms M : List (List Int)} (hM : M = ls ++ ms) (hB : B ≤ V.heap.size) (ho : V.ownsRow B 22 1 v ls.length us) (hl : ListsOwn V B us ls) (hsz : ls.length + ms.length ≤ 1000000) (p : World) (u : Value) (hb : Below V.heap.size V p) (hg : GotAll V ms u p) :
    ∃ v' w', (Builtin.append_ #[24, 24] 24 #[v, u]).run Try.prog p = .ok v' w' ∧ MoreLists B V us M v' w' := by
  obtain ⟨hbg, A, c, vs, rfl, hown2, hli2⟩ := hg
  have ho' := own_below ho hb
  have hl' := hl.below hb
  obtain ⟨A', c', e, hcells, _⟩ := ownsRow.form hown2
  cases e
  obtain ⟨v', w', hr, ho3, hgr⟩ := app_fits (c := c) ho' (vs := vs) (m := ms.length) hli2.1 hcells hli2.one hsz (Nat.le_trans hB hb.size)
  have l1 := (hl'.append (hli2.lo hB)).grown hgr ho'
  rw [← List.length_append, ← hM] at ho3
  rw [← hM] at l1
  obtain ⟨A3, c3, hv, _⟩ := ownsRow.form ho3
  exact ⟨v', w', hr, vs, ho3, l1, (hb.mono hB).grown hgr (Nat.le_trans hB hb.size) (fun g e => (ho'.lt g e).1), A3, c3, hv⟩
theorem keepB3 {B x : Nat} {V p : World} {v1 v2 v3 : Value} (h1 : V.cell? ⟨x, 0, none⟩ = some v1) (h2 : V.cell? ⟨x, 1, none⟩ = some v2) (h3 : V.cell? ⟨x, 2, none⟩ = some v3) (hx : x < B) (hb : Below B V p) : p.cell? ⟨x, 0, none⟩ = some v1 ∧ p.cell? ⟨x, 1, none⟩ = some v2 ∧ p.cell? ⟨x, 2, none⟩ = some v3 :=
  ⟨(hb.cell (p := ⟨x, 0, none⟩) hx).trans h1, (hb.cell (p := ⟨x, 1, none⟩) hx).trans h2, (hb.cell (p := ⟨x, 2, none⟩) hx).trans h3⟩
theorem ints_set1 (xs : List Int) (k : Nat) (v : Int) : (ints xs).set k (.int .i64 v) = ints (xs.set k v) := by simp [ints, List.map_set]
theorem own_put1 {w : World} {base size n g cap k : Nat} {e : TypeId} {xs : List Value} {u : Value} (h : w.ownsRow base e size (.slice (some ⟨g, 0, none⟩) n cap) n xs) : (w.setCell ⟨g, k, none⟩ u).ownsRow base e size (.slice (some ⟨g, 0, none⟩) n cap) n (xs.set k u) := by
  rcases h.2 with ⟨h1, _⟩ | ⟨x, cap', cur, h1, h2, h3, h4, h5, h6, h7⟩
  · cases h1
  · cases h1
    refine ⟨by rw [List.length_set]; exact h.1, .inr ⟨g, cap, cur.setIfInBounds k u, rfl, h2, block_set h3, h4, h5, by simpa using h6, ?_⟩⟩
    rw [Array.toList_setIfInBounds, List.take_set, h7]

set_option maxRecDepth 100000 in
set_option maxHeartbeats 16000000 in
theorem all_some (b : Board) (Af As At A1 A2 : Option Addr) (cf cs ct c1 c2 : Nat) (begin load L : List Int) (F : Int → List (List Int)) (w : World) (hB : BoardAt w Af As At b) (h6 : b.finds.length ≤ 100) (h1 : IntsAt w A1 begin) (h2 : IntsAt w A2 load)
    (hk : begin.length < b.fits.length) (hf : b.fits.length = b.finds.length) (hL : b.fits[begin.length] = L) (hne : 0 < L.length) (hL5 : L.length ≤ 5) (hin : ∀ s ∈ L, 0 ≤ s ∧ s < b.slots.length) (hld : load.length = b.slots.length) (hlv : ∀ x ∈ load, 0 ≤ x ∧ x ≤ 1000)
    (hsl : b.slots.length ≤ 300) (hFn : ∀ s ∈ L, roomOf (pieces b.slots) s ≤ roomOf load s → F s = []) (hFl : ∀ s ∈ L, (F s).length ≤ 20000)
    (ih : ∀ s ∈ L, ¬ roomOf (pieces b.slots) s ≤ roomOf load s → ∀ (A A' : Option Addr) (c c' : Nat) (w' : World), BoardAt w' Af As At b → IntsAt w' A (begin ++ [s]) → IntsAt w' A' (load.set s.toNat (roomOf load s + 1)) → Calls Try.prog 63 #[.agg #[.slice Af b.finds.length cf, .slice As b.slots.length cs, .slice At b.fits.length ct], .slice A (begin.length + 1) c, .slice A' load.length c'] w' (AllPost (F s) w')) :
    Calls Try.prog 63 #[.agg #[.slice Af b.finds.length cf, .slice As b.slots.length cs, .slice At b.fits.length ct], .slice A1 begin.length c1, .slice A2 load.length c2] w (AllPost (L.flatMap F) w) := by
  obtain ⟨V, hW, e0, e1, e2, hbW, hz⟩ := box3 w (.slice Af b.finds.length cf) (.slice As b.slots.length cs) (.slice At b.fits.length ct) 26
  have H1 := hid (h1.kept (Kept.of_below hbW))
  have H2 := hid (h2.kept (Kept.of_below hbW))
  have HB := hid (hB.kept (Kept.of_below hbW))
  have HBW := hid hbW
  have HLT : Hid (w.heap.size < V.heap.size) := hid (by omega)
  have d1 : ((begin.length : Int) == b.finds.length) = false := beq_eq_false_iff_ne.2 (by omega)
  have d2 : ((L.length : Int) == 0) = false := beq_eq_false_iff_ne.2 (by omega)
  have hbl : begin.length ≤ 100 := by omega
  obtain ⟨fb, foff, rfl, hfc⟩ := HB.out.fits (by omega)
  obtain ⟨Aj, cj, f1, f2⟩ := hfc begin.length hk
  rw [hL] at f1 f2
  have F1 := hid f1
  have F2 := hid f2
  have i0 : (0 : Int) ≤ begin.length := by omega
  have i1 : (begin.length : Int) < b.fits.length := by omega
  have E0 := hid e0
  have E1 := hid e1
  have E2 := hid e2
  have HF := hid hf
  have HIH := hid ih
  have HL := hid hL
  have HLD := hid hld
  have HLV := hid hlv
  have HIN := hid hin
  have HFN := hid hFn
  have HFL := hid hFl
  clear h1 h2 hB hbW hz hfc ih hf f2 hL hld hlv hin hFn hFl
  go_enter Try.func63, Try.ntmps63
  go_wp2_with fail
  clear e0 e1 e2 f1
  go_loopg [8, 9] (L.length) (fun g v x wr => ∃ (k : Nat) (us : List Value) (X : List (List Int)), k ≤ L.length ∧ g = L.length - k ∧ x = .int .i64 k ∧ Hid (X = (L.take k).flatMap F) ∧ Hid (wr.ownsRow V.heap.size 22 1 v X.length us) ∧ Hid (ListsOwn wr V.heap.size us X) ∧ Hid (Below V.heap.size V wr))
  case atStart => exact ⟨0, [], [], by omega, by omega, rfl, hid (by simp), hid (World.ownsRow_nil _ _ _ _), hid ⟨rfl, fun j hj => by simp at hj⟩, hid (Below.refl _ _)⟩
  case round =>
    obtain ⟨k, us, X, hk2, hgk, rfl, hX, hown, hli, hbw⟩ := hrel
    have e0 := (Kept.of_below hbw.out) _ _ E0.out
    have e1 := (Kept.of_below hbw.out) _ _ E1.out
    have e2 := (Kept.of_below hbw.out) _ _ E2.out
    have f1 := (Kept.of_below hbw.out) _ _ F1.out
    by_cases hlt : k < L.length
    · obtain ⟨lb, loff, rfl, hlc⟩ := (F2.out.kept (Kept.of_below hbw.out)) (by omega)
      have hlk := hlc k hlt
      have hmem : L[k] ∈ L := List.getElem_mem hlt
      have hs := HIN.out _ hmem
      have hXs : (L.take (k + 1)).flatMap F = (L.take k).flatMap F ++ F L[k] := by rw [List.take_succ_eq_append_getElem hlt, List.flatMap_append]; simp
      have hXl : ((L.take k).flatMap F).length ≤ 100000 := by
        have := flatMap_le F 20000 (L.take k) (fun s hs => HFL.out s (List.mem_of_mem_take hs))
        have h3 := List.length_take_le k L
        have h4 : (L.take k).length * 20000 ≤ 5 * 20000 := Nat.mul_le_mul_right _ (by omega)
        omega
      have hFs := HFL.out _ hmem
      obtain ⟨sn, hsn⟩ : ∃ n : Nat, L[k] = (n : Int) := ⟨L[k].toNat, by omega⟩
      rw [hsn] at hlk hmem hs hXs hFs
      have hs1 : sn < b.slots.length := by omega
      have hs2 : sn < load.length := by rw [HLD.out]; exact hs1
      have hxb := HLV.out _ (List.getElem_mem hs2)
      obtain ⟨xb, xoff, rfl, hxc⟩ := H2.out (by omega)
      have hx1 := (Kept.of_below hbw.out) _ _ (hxc sn hs2)
      obtain ⟨sb, soff, rfl, hsc⟩ := HB.out.slots (by omega)
      have hp1 := (Kept.of_below hbw.out) _ _ (hsc sn hs1).2.2
      have hr1 : roomOf load (sn : Int) = load[sn] := roomOf_lt hs2
      have hr2 : roomOf (pieces b.slots) (sn : Int) = b.slots[sn].pieces := piece_of hs1
      have hih := HIH.out _ hmem
      have hfn := HFN.out _ hmem
      rw [hr1] at hih
      rw [hr1, hr2] at hfn
      rw [hr2] at hih
      obtain ⟨x, hx⟩ : ∃ x, load[sn] = x := ⟨_, rfl⟩
      obtain ⟨p, hp⟩ : ∃ p, b.slots[sn].pieces = p := ⟨_, rfl⟩
      rw [hx] at hx1 hxb hih hfn
      rw [hp] at hp1 hih hfn
      have z1 : (0 : Int) ≤ sn := by omega
      have z2 : (sn : Int) < b.slots.length := by omega
      have z3 : (sn : Int) < load.length := by omega
      have HXS := hid hXs
      have HXL := hid hXl
      have HFS := hid hFs
      have HIS := hid hih
      have HFZ := hid hfn
      have HX := hid hx
      have k0 : (0 : Int) ≤ k := by omega
      have k1 : (k : Int) < L.length := by omega
      clear hlc hmem hs hXs hXl hFs hsn hxc hsc hr1 hr2 hih hfn hx hp
      by_cases hfull : p ≤ x
      · have dd : decide (p ≤ x) = true := decide_eq_true hfull
        have HFU := hid hfull
        clear hfull
        go_wp2_with fail
        go_quiet (fail)
        go_wp2_with fail
        go_roundg (L.length - (k + 1))
        case measure => omega
        case rel => exact ⟨k + 1, us, X, by omega, rfl, by go_num, hid (by rw [HXS.out, HFZ.out HFU.out, List.append_nil]; exact hX.out), hown, hli, hid (Below.drewN' hbw.out _)⟩
      · have dd : decide (p ≤ x) = false := decide_eq_false hfull
        have HFU := hid hfull
        clear hfull
        go_wp2_with fail
        go_quiet (fail)
        generalize hW2 : wr.drewN _ = W2
        have hb2 : Below V.heap.size V W2 := by rw [← hW2]; exact Below.drewN' hbw.out _
        have HOW : Hid (W2.ownsRow V.heap.size 22 1 _ X.length us) := hid (by rw [← hW2]; exact own_below hown.out (Below.drewN' (Below.refl _ _) _))
        have HLI : Hid (ListsOwn W2 V.heap.size us X) := hid (by rw [← hW2]; exact hli.out.below (Below.drewN' (Below.refl _ _) _))
        have HB2 := hid hb2
        clear hown hli hbw e0 e1 e2 f1 hlk hx1 hp1 hW2 hb2
        obtain ⟨v3, w3, hr3, hcp, hbl3, _, _, A3, c3, rfl⟩ := copy_row1 (c := c2) (xs := load) (by rw [HLD.out]; omega) (H2.out.kept (Kept.of_below HB2.out)) (W2.alloc (.cells #[] 3)) W2.heap.size ((Below.refl _ _).alloc (Nat.le_refl _) _) (Nat.le_refl _) (heap_alloc_new _ _)
        have HR3 := hid hr3
        obtain ⟨g3, rfl⟩ : ∃ g, A3 = some ⟨g, 0, none⟩ := by
          rcases hcp.2 with ⟨h, _⟩ | ⟨g, _, _, h, _⟩
          · injection h with _ h5 _
            omega
          · injection h with h4 _ _
            exact ⟨g, h4⟩
        have hrow := RowAt.of_own hcp
        have y1 := (hrow sn hs2).1
        have y2 := (hrow sn hs2).2
        rw [HX.out] at y1
        have hg3 : W2.heap.size ≤ g3 := (hcp.lt g3 rfl).1
        have hput := own_put1 (k := sn) (u := .int .i64 (x + 1)) hcp
        have hbl4 : Below W2.heap.size W2 (w3.setCell ⟨g3, sn, none⟩ (.int .i64 (x + 1))) := hbl3.setCell hg3 _
        rw [ints_set1] at hput
        obtain ⟨V2, hV2⟩ : ∃ V2, w3.setCell ⟨g3, sn, none⟩ (.int .i64 (x + 1)) = V2 := ⟨_, rfl⟩
        rw [hV2] at hput hbl4
        have hint : IntsAt V2 (some ⟨g3, 0, none⟩) (load.set sn (x + 1)) := ownsRow_ints1 hput
        have hVV2 : Below V.heap.size V V2 := HB2.out.trans (hbl4.mono HB2.out.size)
        have HVV := hid hVV2
        have k2 := Kept.of_below hVV2
        have z0 := k2 _ _ E0.out
        have z1' := k2 _ _ E1.out
        have z2' := k2 _ _ E2.out
        have EF := hid (copy_row1 (V := V2) (A := A1) (c := c1) (xs := begin) (by omega) (H1.out.kept k2))
        have EG := hid (more_row1 (V := V2) (xs := begin) (x := (sn : Int)) (by omega))
        have hBV2 := HB.out.kept k2
        have EC : Hid (∀ (p : World) (A : Option Addr) (c : Nat), Below V2.heap.size V2 p → IntsAt p A (begin ++ [(sn : Int)]) → Calls Try.prog 63 #[.agg #[.slice Af b.finds.length cf, .slice (some ⟨sb, soff, none⟩) b.slots.length cs, .slice (some ⟨fb, foff, none⟩) b.fits.length ct], .slice A (begin.length + 1) c, .slice (some ⟨g3, 0, none⟩) load.length c3] p fun e w' => ∃ u, e = .returned u ∧ GotAll V2 (F (sn : Int)) u w') :=
          hid (fun p A c hb hA => (HIS.out HFU.out A _ c c3 p (hBV2.kept (Kept.of_below hb)) hA (by rw [Int.toNat_natCast]; exact hint.kept (Kept.of_below hb))).mono fun e w' h => h.got hb)
        obtain ⟨Av, cv, rfl, _⟩ := ownsRow.form HOW.out
        obtain ⟨M, hM⟩ : ∃ M, M = X ++ F (sn : Int) := ⟨_, rfl⟩
        have hXl : X.length ≤ 100000 := by rw [hX.out]; exact HXL.out
        have ED := hid (more_lists (V := V2) (B := V.heap.size) hM hVV2.size (own_below HOW.out hbl4) (HLI.out.below hbl4) (by have := HFS.out; omega))
        have HM : Hid (M = (L.take (k + 1)).flatMap F) := hid (by rw [hM, HXS.out, ← hX.out])
        clear hrow hput hbl4 hint hVV2 k2 hBV2 hM hXl hcp hbl3 hr3 hg3
        go_wp2_with (at_builtin; refine wpList_app rfl rfl rfl rfl rfl HR3.out ?_)
        go_region_held3 (fun w' => w'.cell? ⟨w.heap.size, 0, none⟩ = some (.slice Af b.finds.length cf) ∧ w'.cell? ⟨w.heap.size, 1, none⟩ = some (.slice (some ⟨sb, soff, none⟩) b.slots.length cs) ∧ w'.cell? ⟨w.heap.size, 2, none⟩ = some (.slice (some ⟨fb, foff, none⟩) b.fits.length ct))
          (first
            | exact keepA3 z0 z1' z2' (Below.refl _ _).drew
            | exact keepA3 z0 z1' z2' (alloc_b (Below.refl V2.heap.size V2) _).drew
            | exact keepA3 z0 z1' z2' (alloc_b (Below.refl V2.heap.size V2).drew _)
            | exact keepA3 z0 z1' z2' (alloc_b (alloc_b (Below.refl V2.heap.size V2) _) _).drew
            | exact keepA3 z0 z1' z2' (alloc_b (alloc_b (Below.refl V2.heap.size V2).drew _) _)
            | exact keepB3 z0 z1' z2' HLT.out BD.out
            | exact keepA3 z0 z1' z2' BC.out
            | exact keepA3 z0 z1' z2' BB.out
            | exact keepA3 z0 z1' z2' BA.out
            | exact keepA3 z0 z1' z2' (alloc_b BA.out _))
          (first
            | (refine step_app1 rfl (.tmp 80) (.tmp 81) 22 22 rfl rfl (.slice (some ⟨V2.heap.size, 0, none⟩) 0 0) (.slice A1 begin.length c1) ?hs ?hx _ (EF.out _ (V2.heap.size) ?hb (Nat.le_refl _) ?hh) ?_
               case hs => simp [Act.eval]
               case hx => simp [Act.eval]
               case hb => first
                 | exact (alloc_b (Below.refl V2.heap.size V2) _).drew
                 | exact (alloc_b (alloc_b (Below.refl V2.heap.size V2) _) _).drew
               case hh =>
                 try (simp only [alloc_get1, drew_heap1, alloc_size1, ↓reduceIte])
                 repeat' split
                 all_goals first
                   | rfl
                   | (exfalso; omega)
               rintro v1 p1 ⟨own1, BA, hcA, hsA, aA1, kk1, rfl⟩
               have OA := hid own1
               have BA := hid BA
               have hcA := hid hcA
               have hsA := hid hsA
               clear own1)
            | (refine step_app1 rfl (.tmp 80) (.tmp 81) 22 22 rfl rfl (.slice (some ⟨V2.heap.size + 1, 0, none⟩) 0 0) (.slice A1 begin.length c1) ?hs ?hx _ (EF.out _ (V2.heap.size + 1) ?hb (Nat.le_succ _) ?hh) ?_
               case hs => simp [Act.eval]
               case hx => simp [Act.eval]
               case hb => first
                 | exact (alloc_b (Below.refl V2.heap.size V2) _).drew
                 | exact (alloc_b (alloc_b (Below.refl V2.heap.size V2) _) _).drew
               case hh =>
                 try (simp only [alloc_get1, drew_heap1, alloc_size1, ↓reduceIte])
                 repeat' split
                 all_goals first
                   | rfl
                   | (exfalso; omega)
               rintro v1 p1 ⟨own1, BA, hcA, hsA, aA1, kk1, rfl⟩
               have OA := hid own1
               have BA := hid BA
               have hcA := hid hcA
               have hsA := hid hsA
               clear own1)
            | (refine step_app1 rfl (.tmp 82) (.tmp 84) 22 22 rfl rfl (.slice aA1 begin.length kk1) (.slice (some ⟨p1.heap.size, 0, none⟩) 1 1) ?hs ?hx _ (EG.out _ (p1.heap.size) _ ?hb ?hc ?ho) ?_
               case hs => simp [Act.eval]
               case hx => simp [Act.eval]
               case hb => exact alloc_b BA.out _
               case hc => simp
               case ho => exact own_below OA.out ((Below.refl _ _).alloc (Nat.le_refl _) _)
               rintro v2 p2 ⟨own2, BB, aA2, kk2, rfl⟩
               have OB := hid own2
               have BB := hid BB
               clear own2)
            | (refine step_app1 rfl (.tmp 82) (.tmp 84) 22 22 rfl rfl (.slice aA1 begin.length kk1) (.slice (some ⟨V2.heap.size + 1, 0, none⟩) 1 1) ?hs ?hx _ (EG.out _ (V2.heap.size + 1) _ ?hb ?hc ?ho) ?_
               case hs => simp [Act.eval]
               case hx => simp [Act.eval]
               case hb => exact BA.out
               case hc => rw [hcA.out _ _ (by simp <;> omega) (by simp)]; simp only [World.cell?, drew_heap1, alloc_get1, alloc_size1]; simp
               case ho => exact OA.out
               rintro v2 p2 ⟨own2, BB, aA2, kk2, rfl⟩
               have OB := hid own2
               have BB := hid BB
               clear own2)
            | (refine step_app1 rfl (.tmp 82) (.tmp 84) 22 22 rfl rfl (.slice aA1 begin.length kk1) (.slice (some ⟨V2.heap.size, 0, none⟩) 1 1) ?hs ?hx _ (EG.out _ (V2.heap.size) _ ?hb ?hc ?ho) ?_
               case hs => simp [Act.eval]
               case hx => simp [Act.eval]
               case hb => exact BA.out
               case hc => rw [hcA.out _ _ (by simp <;> omega) (by simp)]; simp only [World.cell?, drew_heap1, alloc_get1, alloc_size1]; simp
               case ho => exact OA.out
               rintro v2 p2 ⟨own2, BB, aA2, kk2, rfl⟩
               have OB := hid own2
               have BB := hid BB
               clear own2)
            | (go_at_call 63
               refine (EC.out _ _ _ BB.out (ownsRow_ints1 OB.out)).mono ?_
               rintro e w3 ⟨u, rfl, hgot⟩
               have HGOT := hid hgot
               have BC := hid hgot.1
               obtain ⟨_, aU, kU, usU, rfl, _, _⟩ := hgot
               skip)
            | (refine step_app1 rfl (.tmp 78) (.tmp 87) 24 24 rfl rfl _ _ ?hs ?hx _ (ED.out _ _ BC.out HGOT.out) ?_
               case hs => simp [Act.eval]
               case hx => simp [Act.eval]
               rintro v4 p4 hmore
               have HMO := hid hmore
               obtain ⟨_, _, _, BD, aD, kD, rfl⟩ := hmore
               have BD := hid BD))
        all_goals
          go_wp2_with fail
          go_roundg (L.length - (k + 1))
          case measure => omega
          case rel =>
            obtain ⟨vs, o1, l1, b1, _⟩ := HMO.out
            exact ⟨k + 1, us ++ vs, M, by omega, rfl, by go_num, HM, hid o1, hid l1, hid (HVV.out.trans b1)⟩
    · obtain rfl : k = L.length := by omega
      obtain ⟨A, c, rfl, _⟩ := ownsRow.form hown.out
      go_wp2_with fail
      go_ret
      have hXe : L.flatMap F = X := by rw [hX.out, List.take_length]
      rw [hXe]
      exact ⟨HBW.out.trans (hbw.out.mono HBW.out.size), A, c, us, rfl, own_lo hown.out HBW.out.size, hli.out.lo HBW.out.size⟩

/-- all comes to all lists that extend a beginning. -/
theorem all_any (b : Board) (Af As At : Option Addr) (cf cs ct : Nat) (hg : b.Good) (h6 : b.finds.length ≤ 6) (hs12 : b.slots.length ≤ 12) (h5 : ∀ l ∈ b.fits, l.length ≤ 5) : ∀ (n : Nat) (begin load : List Int) (A1 A2 : Option Addr) (c1 c2 : Nat) (w : World),
    begin.length + n = b.finds.length → BoardAt w Af As At b → IntsAt w A1 begin → IntsAt w A2 load → load.length = b.slots.length → (∀ x ∈ load, 0 ≤ x ∧ x ≤ begin.length) →
    Calls Try.prog 63 #[.agg #[.slice Af b.finds.length cf, .slice As b.slots.length cs, .slice At b.fits.length ct], .slice A1 begin.length c1, .slice A2 load.length c2] w (AllPost (allTo (pieces b.slots) (b.fits.drop begin.length) begin load) w)
  | 0, begin, load, A1, A2, c1, c2, w, hn, hB, h1, h2, hl, hv => by
    have hd : b.fits.drop begin.length = [] := List.drop_of_length_le (by rw [hg.len]; omega)
    rw [hd, allTo_nil]
    exact all_base b Af As At A1 A2 cf cs ct c1 c2 begin load w (by omega) (by omega) h1
  | n + 1, begin, load, A1, A2, c1, c2, w, hn, hB, h1, h2, hl, hv => by
    have hk : begin.length < b.fits.length := by rw [hg.len]; omega
    have hd : b.fits.drop begin.length = b.fits[begin.length] :: b.fits.drop (begin.length + 1) := List.drop_eq_getElem_cons hk
    have h5r : ∀ l ∈ b.fits.drop (begin.length + 1), l.length ≤ 5 := fun l hl => h5 l (List.mem_of_mem_drop hl)
    rw [hd]
    by_cases h0 : b.fits[begin.length].length = 0
    · rw [List.eq_nil_of_length_eq_zero h0, allTo_none]
      refine all_none b Af As At A1 A2 cf cs ct c1 c2 begin load _ w hB (by omega) h1 h2 hk hg.len h0 fun A c w' hB' h1' h2' => ?_
      have := all_any b Af As At cf cs ct hg h6 hs12 h5 n (begin ++ [-1]) load A A2 c c2 w' (by simp; omega) hB' h1' h2' hl (fun x hx => by have := hv x hx; simp; omega)
      simpa using this
    · have hne : b.fits[begin.length] ≠ [] := fun e => h0 (by rw [e]; rfl)
      have hmem : b.fits[begin.length] ∈ b.fits := List.getElem_mem hk
      rw [allTo_some hne]
      have hin : ∀ s ∈ b.fits[begin.length], 0 ≤ s ∧ s < b.slots.length := fun s hs => by
        have := hg.inside begin.length s (by rw [fitOf_lt hk]; exact hs)
        rwa [pieces_length] at this
      refine all_some b Af As At A1 A2 cf cs ct c1 c2 begin load _ _ w hB (by omega) h1 h2 hk hg.len rfl (by omega) (h5 _ hmem) hin hl (fun x hx => by have := hv x hx; omega) (by omega) (fun s hs h => by rw [if_pos h]) (fun s hs => ?_) fun s hs hlt A A' c c' w' hB' h1' h2' => ?_
      · split
        · simp
        · refine Nat.le_trans (allTo_count h5r) ?_
          have : (b.fits.drop (begin.length + 1)).length ≤ 6 := by rw [List.length_drop, hg.len]; omega
          exact Nat.le_trans (Nat.pow_le_pow_right (by omega) this) (by decide)
      · rw [if_neg hlt]
        obtain ⟨h0', h1s⟩ := hin s hs
        have := all_any b Af As At cf cs ct hg h6 hs12 h5 n (begin ++ [s]) (load.set s.toNat (roomOf load s + 1)) A A' c c' w' (by simp; omega) hB' h1' h2' (by rw [List.length_set]; exact hl) (fun x hx => by
          rcases List.mem_or_eq_of_mem_set hx with h | rfl
          · have := hv x h; simp; omega
          · have hm : roomOf load s = load[s.toNat]'(by omega) := by
              have := roomOf_lt (a := load) (s := s.toNat) (by omega)
              rwa [Int.toNat_of_nonneg h0'] at this
            have := hv _ (List.getElem_mem (show s.toNat < load.length by omega))
            rw [hm]; simp; omega)
        simpa using this
end Go.Proofs.Ytpmdjbjnihhjeaa
