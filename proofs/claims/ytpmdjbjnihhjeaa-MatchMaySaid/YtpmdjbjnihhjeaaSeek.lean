/- The search along other finds, walked: give's inner closure. -/
import Derived.Test.YtpmdjbjnihhjeaaTrial
import Derived.Test.YtpmdjbjnihhjeaaHall
import Derived.Outline
namespace Go.Proofs.Ytpmdjbjnihhjeaa
open Go.RowKit

structure SeekMem (S : World) (tb hb sb B1 B2 B3 : Nat) (fits : List (List Int)) (room : List Int) : Prop where
  trial : TrialAt S tb hb fits room
  c1 : S.cell? ⟨B1, 0, none⟩ = some (.pointer (some ⟨tb, 0, none⟩))
  c2 : S.cell? ⟨B2, 0, none⟩ = some (.slice (some ⟨sb, 0, none⟩) room.length room.length)
  c3 : S.cell? ⟨B3, 0, none⟩ = some (.func (.func 96) #[] #[.pointer (some ⟨B1, 0, none⟩), .pointer (some ⟨B2, 0, none⟩), .pointer (some ⟨B3, 0, none⟩)])
  void : Void S [sb, hb]
  ne : sb ≠ hb

/-- What the search comes to. -/
def SeekPost (fits : List (List Int)) (room : List Int) (f : Nat) (seen : List Bool) (has : List Int) (hb sb : Nat) (w : World) (e : Ending) (w' : World) : Prop :=
  Only [sb, hb] w w' ∧
    ((e = .returned (.bool true) ∧ ∃ seen' has', SeekOk fits room f seen has seen' has' ∧ RowAt Value.bool w' sb seen' ∧ RowAt (Value.int .i64) w' hb has') ∨
     (e = .returned (.bool false) ∧ ∃ seen', SeekNo fits room f seen has seen' ∧ RowAt Value.bool w' sb seen' ∧ RowAt (Value.int .i64) w' hb has))

theorem holdTo_length (zs : List Int) (s : Int) : ∀ k, k ≤ zs.length → (holdTo zs s k).length = (zs.take k).count s
  | 0, _ => rfl
  | k + 1, h => by
    have hk : k < zs.length := by omega
    rw [List.take_succ_eq_append_getElem hk, List.count_append, ← holdTo_length zs s k (by omega)]
    by_cases e : zs[k] = s
    · rw [holdTo_hit (by rw [List.getElem?_eq_getElem hk, e])]
      simp [e]
    · rw [holdTo_miss (by rw [List.getElem?_eq_getElem hk]; simpa using e)]
      rw [List.count_singleton]
      simp [e]
theorem hold_load (zs : List Int) (s : Int) : ((hold zs s).length : Int) = loadOf zs s := by
  unfold hold loadOf
  rw [holdTo_length zs s _ (Nat.le_refl _), List.take_length]
theorem mem_hold {zs : List Int} {s : Int} {g : Nat} : g ∈ hold zs s ↔ g < zs.length ∧ hasOf zs g = s := by
  unfold hold holdTo
  simp only [List.mem_filter, List.mem_range, decide_eq_true_eq]
  constructor
  · rintro ⟨h1, h2⟩
    refine ⟨h1, ?_⟩
    rw [hasOf_lt h1]
    rw [List.getElem?_eq_getElem h1] at h2
    simpa using h2
  · rintro ⟨h1, h2⟩
    refine ⟨h1, ?_⟩
    rw [hasOf_lt h1] at h2
    rw [List.getElem?_eq_getElem h1, h2]
theorem own_from {w : World} {base e size n cap : Nat} {A : Option Addr} {us : List Value} {a : Addr} (h : w.ownsRow base e size (.slice A n cap) n us) (ha : A = some a) : base ≤ a.block := by
  subst ha
  obtain ⟨A', cap', hv, _, _, hf⟩ := ownsRow.form h
  cases hv
  exact (hf a rfl).1
theorem has_in {zs : List Int} {s g : Nat} (h : hasOf zs g = (s : Int)) : g < zs.length := by
  rcases Nat.lt_or_ge g zs.length with h1 | h1
  · exact h1
  · rw [hasOf_ge h1] at h; omega
theorem nats_get {gs : List Nat} {j : Nat} (h : j < gs.length) : (nats gs)[j]'(by simpa [nats] using h) = (gs[j] : Int) := by simp [nats]
theorem nats_length (gs : List Nat) : (nats gs).length = gs.length := by simp [nats]

theorem Kept.bare2 {S w : World} {x y : Nat} (h : Kept S w) (hv : Void S [x, y]) : Kept S (bare (bare w x) y) := fun p v hp => by
  have hx := hv p v hp
  simp only [List.mem_cons, List.not_mem_nil, or_false, not_or] at hx
  rw [bare_cell hx.2, bare_cell hx.1]
  exact h p v hp
theorem IntsAt.bare2 {w : World} {x y : Nat} {A : Option Addr} {xs : List Int} (h : IntsAt w A xs) (hA : ∀ a, A = some a → a.block ≠ x ∧ a.block ≠ y) : IntsAt (bare (bare w x) y) A xs := fun h0 => by
  obtain ⟨b, off, rfl, hc⟩ := h h0
  have := hA _ rfl
  exact ⟨b, off, rfl, fun j hj => by rw [bare_cell (p := ⟨b, off + j, none⟩) this.2, bare_cell (p := ⟨b, off + j, none⟩) this.1]; exact hc j hj⟩
theorem bare2_void (w : World) (x y : Nat) : Void (bare (bare w x) y) [x, y] := fun p v hp hx => by
  simp only [List.mem_cons, List.not_mem_nil, or_false] at hx
  by_cases e : p.block = y
  · rw [bare_none e] at hp; cases hp
  · rw [bare_cell e] at hp
    rcases hx with hx | hx
    · rw [bare_none hx] at hp; cases hp
    · exact e hx
theorem bare2_kept (w : World) (x y : Nat) : Kept (bare (bare w x) y) w := bare_kept.trans bare_kept

theorem keep3 {W1 wa wb : World} {p1 p2 p3 : Addr} {v1 v2 v3 : Value} (h : wa.cell? p1 = some v1 ∧ wa.cell? p2 = some v2 ∧ wa.cell? p3 = some v3 ∧ Below W1.heap.size W1 wa) (hb : Below wa.heap.size wa wb) :
    wb.cell? p1 = some v1 ∧ wb.cell? p2 = some v2 ∧ wb.cell? p3 = some v3 ∧ Below W1.heap.size W1 wb :=
  have k := Kept.of_below hb
  ⟨k _ _ h.1, k _ _ h.2.1, k _ _ h.2.2.1, h.2.2.2.trans (hb.mono h.2.2.2.size)⟩

set_option maxRecDepth 100000 in
set_option maxHeartbeats 4000000 in
theorem seek_any (S : World) (tb hb sb B1 B2 B3 : Nat) (fits : List (List Int)) (room : List Int) (hM : SeekMem S tb hb sb B1 B2 B3 fits room) (hn : fits.length ≤ 1000) (hm : room.length ≤ 1000) (hl : ∀ l ∈ fits, l.length ≤ 1000) :
    ∀ (N f : Nat) (seen : List Bool) (has : List Int) (w : World), blank seen ≤ N → f < fits.length → SeekIn fits room seen has → Kept S w → RowAt Value.bool w sb seen → RowAt (Value.int .i64) w hb has →
      Calls Try.prog 96 #[.int .i64 f, .pointer (some ⟨B1, 0, none⟩), .pointer (some ⟨B2, 0, none⟩), .pointer (some ⟨B3, 0, none⟩)] w (SeekPost fits room f seen has hb sb w) := by
  intro N
  induction N using Nat.strongRecOn with
  | _ N ih =>
  intro f seen has w hN hf hin hK hS hH
  obtain ⟨⟨_, _, ⟨At, ct, t2, hfit⟩, ⟨Ar, cr, t3, hroom⟩, ⟨ch, t4⟩⟩, c1, c2, c3, hV, hne⟩ := hM
  obtain ⟨fb, foff, rfl, hfc⟩ := hfit (by omega)
  obtain ⟨Aj, cj, f1, f2⟩ := hfc f hf
  have hlen := hl fits[f] (List.getElem_mem hf)
  obtain ⟨L, hL⟩ : ∃ L, L = fits[f] := ⟨_, rfl⟩
  rw [← hL] at f1 f2 hlen
  have HL : Hid (fitOf fits f = L) := hid ((fitOf_lt hf).trans hL.symm)
  have t4' : S.cell? ⟨tb, 4, none⟩ = some (.slice (some ⟨hb, 0, none⟩) has.length ch) := by rw [hin.lenH]; exact t4
  have HT4 := hid t4'
  have w2 := hK _ _ t2
  have w1 := hK _ _ c1
  have wf := hK _ _ f1
  have IH := hid ih
  have HN := hid hN
  have HIN := hid hin
  have HK := hid hK
  have HS := hid hS
  have HH := hid hH
  have HV := hid hV
  have HF2 := hid f2
  have HROOM := hid hroom
  clear ih hN hin hS hH hV f2 hroom hfc hL t4'
  go_enter Try.func96, Try.ntmps96
  go_wp2_with fail
  clear w1 w2 wf hK
  go_loopg [19] (L.length) (fun g i wr => ∃ (k : Nat) (seen' : List Bool), k ≤ L.length ∧ g = L.length - k ∧ i = .int .i64 k ∧ Hid (SeekTo fits room f seen has k seen') ∧ Hid (Kept S wr) ∧ Hid (RowAt Value.bool wr sb seen') ∧ Hid (RowAt (Value.int .i64) wr hb has) ∧ Hid (Only [sb, hb] w wr))
  case atStart => exact ⟨0, seen, by omega, by omega, rfl, hid SeekTo.start, HK, HS, HH, hid (Only.refl _ _)⟩
  case round =>
    obtain ⟨k, seen', hk, hgk, rfl, hto, hk1, hs1, hh1, ho1⟩ := hrel
    by_cases hlt : k < L.length
    · obtain ⟨ab, aoff, rfl, hc⟩ := HF2.out (by omega)
      have hcell := hk1.out _ _ (hc k hlt)
      have hmem : L[k] ∈ fitOf fits f := by rw [HL.out]; exact List.getElem_mem hlt
      have hin2 := HIN.out.wf f _ hmem
      obtain ⟨s, hs⟩ : ∃ s : Nat, L[k] = (s : Int) := ⟨L[k].toNat, by omega⟩
      rw [hs] at hcell hin2
      have HSL := hid hs
      clear hc hmem hs
      have hsl : s < room.length := by omega
      have hss : s < seen'.length := by rw [hto.out.lenS, HIN.out.lenS]; exact hsl
      have e1 := hk1.out _ _ c1
      have e2 := hk1.out _ _ c2
      have e3 := (hs1.out s hss).1
      have e4 := (hs1.out s hss).2
      rcases hsn : seen'[s] with _ | _
      case true =>
        rw [hsn] at e3
        have HSN := hid hsn
        clear hsn
        go_wp2_with fail
        go_roundg (L.length - (k + 1))
        case measure => omega
        case rel => exact ⟨k + 1, seen', by omega, rfl, by go_num, hid (hto.out.skip (by rw [HL.out]; exact hlt) (by simp only [HL.out, HSL.out]; exact ⟨by omega, by simp [hss, HSN.out]⟩)), hk1, hs1, hh1, ho1⟩
      case false =>
        rw [hsn] at e3
        have HSN := hid hsn
        clear hsn
        obtain ⟨W1, hW1⟩ : ∃ W1, wr.setCell ⟨sb, s, none⟩ (.bool true) = W1 := ⟨_, rfl⟩
        have o1 : Only [sb, hb] wr W1 := by rw [← hW1]; exact (Only.refl _ _).setCell (by simp) _
        have k2 := hk1.out.only HV.out o1
        have hs2 : RowAt Value.bool W1 sb (seen'.set s true) := by rw [← hW1]; exact hs1.out.set s true
        have hh2 : RowAt (Value.int .i64) W1 hb has := by rw [← hW1]; exact hh1.out.setOther (p := ⟨sb, s, none⟩) hne _
        have o2 := hid (ho1.out.trans o1)
        have HS2 := hid hs2
        have HH2 := hid hh2
        have K2 := hid k2
        have HW1 := hid hW1
        have q1 := k2 _ _ c1
        have q3 := k2 _ _ t3
        have hfl : f < has.length := by rw [HIN.out.lenH]; exact hf
        have q5 := (hh2 f hfl).1
        have hbl : hb < W1.heap.size := cell_lt q5
        obtain ⟨rb, roff, rfl, hrc⟩ := HROOM.out (by omega)
        have q6 := k2 _ _ (hrc s hsl)
        have hload := fun (wx : World) (hx : Below W1.heap.size W1 wx) => load_any tb ch (some ⟨hb, 0, none⟩) has s (by rw [HIN.out.lenH]; exact hn) wx ((Kept.of_below hx) _ _ (k2 _ _ HT4.out)) ((hh2.below hx).intsAt) (fun a ha => by cases ha; exact Nat.lt_of_lt_of_le hbl hx.size)
        have HLOAD := hid hload
        clear hload o1 hs2 hh2 k2 hrc
        go_wp2_with fail
        clear hcell e1 e2 e3 e4
        go_cut [40] from 20 to 73 (fun s40 wx => s40 = .bool (decide (loadOf has s < room[s])) ∧ Below W1.heap.size W1 wx)
        case first =>
          clear hW1
          go_region_held3 (fun w' => w'.cell? ⟨B1, 0, none⟩ = some (.pointer (some ⟨tb, 0, none⟩)) ∧ w'.cell? ⟨tb, 3, none⟩ = some (.slice (some ⟨rb, roff, none⟩) room.length cr) ∧ w'.cell? ⟨rb, roff + s, none⟩ = some (.int .i64 room[s]) ∧ Below W1.heap.size W1 w') (first | exact ⟨q1, q3, q6, (Below.refl _ _).drew⟩ | exact keep3 (by assumption) hbel)
            (first
              | (go_at_call 74; refine (HLOAD.out _ (And.right (And.right (And.right (by assumption))))).mono ?_; rintro e w' ⟨rfl, hbel⟩))
          all_goals
            go_wp2_with fail
            go_meet
            exact ⟨by rw [hold_load], by (have h4 := And.right (And.right (And.right (by assumption : _ ∧ _ ∧ _ ∧ Below W1.heap.size W1 _)))); exact h4⟩
        case rest =>
          obtain ⟨h40, hbx⟩ := hcut
          have kx := (K2.out.trans (Kept.of_below hbx))
          have hsx := HS2.out.below hbx
          have hhx := HH2.out.below hbx
          have ox := hid (o2.out.then hbx)
          have KX := hid kx
          have HSX := hid hsx
          have HHX := hid hhx
          have x1 := kx _ _ c1
          have x4 := kx _ _ t4
          have x5 := (hhx f hfl).1
          have x6 := (hhx f hfl).2
          have HRO : Hid (roomOf room (s : Int) = room[s]) := hid (roomOf_lt hsl)
          clear q1 q3 q5 q6 hbl HLOAD hbx hW1 kx hsx hhx
          by_cases hfree : loadOf has s < room[s]
          · rw [decide_eq_true hfree] at h40
            subst h40
            have HFREE := hid hfree
            clear hfree
            go_wp2_with fail
            go_ret
            refine ⟨ox.out.setCell (by simp) _, .inl ⟨rfl, _, _, SeekTo.takes HIN.out hto.out hf (k := k) (by rw [HL.out]; exact hlt) (by simp only [HL.out]; exact HSL.out) ?_ (by rw [HRO.out]; exact HFREE.out) ?_, HSX.out.setOther (p := ⟨hb, f, none⟩) (fun e => hne e.symm) _, HHX.out.set f s⟩⟩
            · rintro ⟨_, h⟩
              simp [hss, HSN.out] at h
            · rw [List.length_set, hto.out.lenS]
          · rw [decide_eq_false hfree] at h40
            subst h40
            have HFREE := hid hfree
            clear hfree x4 x5 x6
            go_wp2_with fail
            refine (at_box tb s _).mono ?_
            rintro e wa ⟨B4, B5, rfl, hba, ha1, ha2⟩
            have ka := KX.out.trans (Kept.of_below hba)
            have hha := HHX.out.below hba
            have hbl : hb < wa.heap.size := cell_lt (hha f hfl).1
            go_wp2_with fail
            refine (collect_any B4 B5 tb ch (some ⟨hb, 0, none⟩) has s (by rw [HIN.out.lenH]; exact hn) wa ha1 ha2 (ka _ _ HT4.out) hha.intsAt (fun a ha => by cases ha; exact hbl)).mono ?_
            rintro e wb ⟨v, rfl, hown, hbb⟩
            obtain ⟨A, cap, rfl, hA⟩ := ownsRow.ints hown
            obtain ⟨gs, hgs⟩ : ∃ gs, gs = hold has s := ⟨_, rfl⟩
            have hAf := fun a (h : A = some a) => own_from hown h
            rw [← hgs] at hown hA ⊢
            have hsbl : sb < wa.heap.size := cell_lt ((HSX.out.below hba) s (by simpa using hss)).1
            have hA2 : Hid (IntsAt (bare (bare wb sb) hb) A (nats gs)) := hid (hA.bare2 (fun a h => by have := hAf a h; omega))
            have kb := hid (KX.out.trans ((Kept.of_below hba).trans (Kept.of_below hbb)))
            have hsb2 := hid ((HSX.out.below hba).below hbb)
            have hhb2 := hid ((HHX.out.below hba).below hbb)
            have ob := hid ((ox.out.then hba).then hbb)
            have hkb : Hid (Kept S (bare (bare wb sb) hb)) := hid (kb.out.bare2 HV.out)
            have hgl : gs.length ≤ 1000 := by rw [hgs]; unfold hold; have := holdTo_le has s has.length; have := HIN.out.lenH; omega
            have HGS := hid hgs
            clear hgs hown hA hAf ka hha hba hbb ha1 ha2 hbl hsbl
            go_wp2_with fail
            go_loopg [53] (gs.length) (fun g i wr => ∃ (j : Nat) (sj : List Bool), j ≤ gs.length ∧ g = gs.length - j ∧ i = .int .i64 j ∧ Hid (SeekAt fits room f seen has k s gs (seen'.set s true) j sj) ∧ Hid (Kept (bare (bare wb sb) hb) wr) ∧ Hid (RowAt Value.bool wr sb sj) ∧ Hid (RowAt (Value.int .i64) wr hb has) ∧ Hid (Only [sb, hb] w wr))
            case atStart => exact ⟨0, _, by omega, by omega, rfl, hid (hto.out.open_ (by omega) (by simpa using hss) gs), hid (bare2_kept _ _ _), hsb2, hhb2, ob⟩
            case round =>
              obtain ⟨j, sj, hj, hgj, rfl, hat, hk3, hs3, hh3, ho3⟩ := hrel
              have hkS := hid (hkb.out.trans hk3.out)
              by_cases hlj : j < gs.length
              · obtain ⟨ab2, aoff2, rfl, hc2⟩ := hA2.out (by rw [nats_length]; omega)
                have hcell := hk3.out _ _ (hc2 j (by rw [nats_length]; exact hlj))
                rw [nats_get hlj] at hcell
                clear hc2
                by_cases e : gs[j] = f
                · have d1 : ((gs[j] : Int) != (f : Int)) = false := by simp [e]
                  have HE := hid e
                  clear e
                  go_wp2_with fail
                  go_roundg (gs.length - (j + 1))
                  case measure => omega
                  case rel => exact ⟨j + 1, sj, by omega, rfl, by go_num, hid (hat.out.same hlj HE.out), hk3, hs3, hh3, ho3⟩
                · have d1 : ((gs[j] : Int) != (f : Int)) = true := by simp; omega
                  have HE := hid e
                  have z3 := hkS.out _ _ c3
                  have hgm := mem_hold.1 (show gs[j] ∈ hold has s by rw [← HGS.out]; exact List.getElem_mem hlj)
                  have hgf : gs[j] < fits.length := by rw [← HIN.out.lenH]; exact hgm.1
                  have hsin := hid (HIN.out.marked (seen' := sj) hat.out.lenS)
                  have hfew : Hid (blank sj < N) := hid (by
                    have h1 := blank_set hss HSN.out
                    have h2 := blank_mono (seen := seen') (seen' := seen'.set s true) (by simp) (fun x hx => (seenOf_set hss x).2 (.inr hx))
                    have h3 := blank_mono (seen := seen) (seen' := seen') hto.out.lenS hto.out.mono
                    have h4 := blank_mono (seen := seen'.set s true) (seen' := sj) (by rw [List.length_set, hto.out.lenS, hat.out.lenS]) hat.out.more
                    have := HN.out
                    omega)
                  have HGM := hid hgm.2
                  clear e hgm
                  go_wp2_with fail
                  refine (IH.out (blank sj) hfew.out gs[j] sj has _ (Nat.le_refl _) hgf hsin.out hkS.out hs3.out hh3.out).mono ?_
                  rintro e wd ⟨hod, ⟨rfl, s2, h2, hok, hsd, hhd⟩ | ⟨rfl, s2, hno, hsd, hhd⟩⟩
                  · have hkd := hkS.out.only HV.out hod
                    have y1 := hkd _ _ c1
                    have y4 := hkd _ _ t4
                    have hf2 : f < h2.length := by rw [hok.lenH, HIN.out.lenH]; exact hf
                    have y5 := (hhd f hf2).1
                    have y6 := (hhd f hf2).2
                    have HOD := hid hod
                    have HOK := hid hok
                    have HSD := hid hsd
                    have HHD := hid hhd
                    clear hod hok hsd hhd hkd
                    go_wp2_with fail
                    go_ret
                    refine ⟨(ho3.out.trans HOD.out).setCell (by simp) _, .inl ⟨rfl, _, _, SeekAt.takes HIN.out hat.out hf (k := k) (by rw [HL.out]; exact hlt) (by simp only [HL.out]; exact HSL.out) ?_ hlj hgf HGM.out HOK.out, HSD.out.setOther (p := ⟨hb, f, none⟩) (fun e => hne e.symm) _, HHD.out.set f s⟩⟩
                    intro hx
                    have h := (hto.out.mono _ hx).2
                    simp [hss, HSN.out] at h
                  · have HOD := hid hod
                    have HNO := hid hno
                    have HSD := hid hsd
                    have HHD := hid hhd
                    clear hod hno hsd hhd
                    go_wp2_with fail
                    go_roundg (gs.length - (j + 1))
                    case measure => omega
                    case rel => exact ⟨j + 1, s2, by omega, rfl, by go_num, hid (hat.out.no hlj HNO.out), hid (hk3.out.only (bare2_void _ _ _) HOD.out), HSD, HHD, hid (ho3.out.trans HOD.out)⟩
              · go_wp2_with fail
                go_roundg (L.length - (k + 1))
                case measure => omega
                case rel => exact ⟨k + 1, sj, by omega, rfl, by go_num, hid (hat.out.close (by rw [HL.out]; exact hlt) (by simp only [HL.out]; exact HSL.out) (by omega) (by rw [HRO.out]; have := HFREE.out; omega) (fun g hg => by rw [HGS.out]; exact mem_hold.2 ⟨has_in hg, hg⟩)), hkS, hs3, hh3, ho3⟩
    · go_wp2_with fail
      go_ret
      exact ⟨ho1.out, .inr ⟨rfl, seen', hto.out.no (by rw [HL.out]; omega), hs1.out, hh1.out⟩⟩
end Go.Proofs.Ytpmdjbjnihhjeaa
