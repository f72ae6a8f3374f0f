/- Giving a find a slot, walked. -/
import Derived.Test.YtpmdjbjnihhjeaaSeek
import Derived.Test.YtpmdjbjnihhjeaaSorted
import Derived.Laws.EntriesVeiled
namespace Go.Proofs.Ytpmdjbjnihhjeaa
open Go.RowKit

theorem boolsl_u : Try.prog.underlying 104 = some (.slice 4) := by kernel_rfl
theorem bools_info : ∃ i, Try.prog.info? 4 = some i ∧ i.zero = some (.bool false) ∧ i.size = 1 ∧ i.bytes = 1 := by
  have h : (Try.prog.info? 4).map (fun i => (i.zero, i.size, i.bytes)) = some (some (.bool false), 1, 1) := by kernel_rfl
  obtain ⟨i, h1, h2, h3, h4⟩ := info_parts h
  exact ⟨i, h1, h2, h3, h4⟩

/-- What giving comes to. -/
def GivePost (fits : List (List Int)) (room : List Int) (f : Nat) (has : List Int) (hb : Nat) (w : World) (e : Ending) (w' : World) : Prop :=
  Only [hb] w w' ∧
    ((e = .returned (.tuple #[.slice none 0 0, .bool true]) ∧ ∃ has', GiveOk fits room f has has' ∧ RowAt (Value.int .i64) w' hb has') ∨
     (∃ H A c, e = .returned (.tuple #[.slice A H.length c, .bool false]) ∧ IntsAt w' A H ∧ GiveNo fits room f has H ∧ RowAt (Value.int .i64) w' hb has))

/-- The finds at the first k slots that are marked. -/
def hallTo (seen : List Bool) (has : List Int) (f : Nat) : Nat → List Nat
  | 0 => [f]
  | k + 1 => hallTo seen has f k ++ if seen[k]? = some true then hold has (k : Int) else []
theorem hallTo_mem {seen : List Bool} {has : List Int} {f g : Nat} : ∀ {k : Nat}, g ∈ hallTo seen has f k ↔ g = f ∨ ∃ s : Nat, s < k ∧ seen[s]? = some true ∧ g ∈ hold has (s : Int)
  | 0 => by simp [hallTo]
  | k + 1 => by
    unfold hallTo
    rw [List.mem_append, hallTo_mem]
    constructor
    · rintro ((h | ⟨s, h1, h2, h3⟩) | h)
      · exact .inl h
      · exact .inr ⟨s, by omega, h2, h3⟩
      · split at h
        · rename_i hs; exact .inr ⟨k, by omega, hs, h⟩
        · simp at h
    · rintro (h | ⟨s, h1, h2, h3⟩)
      · exact .inl (.inl h)
      · by_cases e : s = k
        · subst e; rw [if_pos h2]; exact .inr h3
        · exact .inl (.inr ⟨s, by omega, h2, h3⟩)
theorem hallTo_length {seen : List Bool} {has : List Int} {f : Nat} (hl : has.length ≤ 100) : ∀ k, (hallTo seen has f k).length ≤ 1 + k * 100
  | 0 => by simp [hallTo]
  | k + 1 => by
    unfold hallTo
    have := hallTo_length (seen := seen) (f := f) hl k
    have h2 : (hold has (k : Int)).length ≤ 100 := by unfold hold; have := holdTo_le has (k : Int) has.length; omega
    rw [List.length_append]
    split
    · omega
    · simp only [List.length_nil]; omega
theorem hallTo_pos {seen : List Bool} {has : List Int} {f k : Nat} : 0 < (hallTo seen has f k).length := List.length_pos_of_mem (hallTo_mem.2 (.inl rfl))

/-- The hall, as a list of finds: who is in it. -/
theorem hall_mem {seen : List Bool} {has : List Int} {f m n : Nat} (hm : seen.length = m) (hn : has.length = n) (x : Int) :
    x ∈ setList (nats (hallTo seen has f m)) ↔ ∃ g : Nat, x = (g : Int) ∧ (g = f ∨ (g < n ∧ seenOf seen (hasOf has g))) := by
  rw [(setList_spec _).2]
  simp only [nats, List.mem_map, hallTo_mem, mem_hold, seenOf]
  constructor
  · rintro ⟨g, h, rfl⟩
    refine ⟨g, rfl, ?_⟩
    rcases h with h | ⟨s, h1, h2, h3, h4⟩
    · exact .inl h
    · exact .inr ⟨by omega, by omega, by rw [h4]; simpa using h2⟩
  · rintro ⟨g, rfl, h⟩
    refine ⟨g, ?_, rfl⟩
    rcases h with h | ⟨h1, h2, h3⟩
    · exact .inl h
    · have := (List.getElem?_eq_some_iff.1 h3).1
      exact .inr ⟨(hasOf has g).toNat, by omega, h3, by omega, by omega⟩

theorem own_below {w w' : World} {base e size n : Nat} {v : Value} {us : List Value} (h : w.ownsRow base e size v n us) (hb : Below w.heap.size w w') : w'.ownsRow base e size v n us := by
  refine ⟨h.1, ?_⟩
  rcases h.2 with h2 | ⟨g, cap, cur, h1, h2, hg, h3⟩
  · exact .inl h2
  · exact .inr ⟨g, cap, cur, h1, h2, (hb.block g (Array.getElem?_eq_some_iff.1 hg).1).trans hg, h3⟩
theorem own_slice {w : World} {base e size n : Nat} {v : Value} {us : List Value} (h : w.ownsRow base e size v n us) (h0 : 0 < n) : ∃ g cap, v = .slice (some ⟨g, 0, none⟩) n cap ∧ base ≤ g ∧ n ≤ cap := by
  rcases h.2 with ⟨_, h2⟩ | ⟨g, cap, cur, h1, h2, hg, h3, _⟩
  · omega
  · exact ⟨g, cap, h1, h2, h3⟩

theorem give_mem (S w wm : World) (tb hb : Nat) (fits : List (List Int)) (room has : List Int) (hT : TrialAt S tb hb fits room) (hV : Void S [hb]) (hK : Kept S w) (hH : RowAt (Value.int .i64) w hb has) (hbl : hb < w.heap.size)
    (hb1 : Below (w.heap.size + 1) (w.alloc (.cells #[.pointer (some ⟨tb, 0, none⟩)] 68)) wm) (hblk : wm.heap[w.heap.size + 1]? = some (.cells (List.replicate room.length (.bool false)).toArray 4 (0, 0)))
    (Wv : World) (hWv : Wv = (wm.alloc (.cells #[.slice (some ⟨w.heap.size + 1, 0, none⟩) room.length room.length] 104)).alloc (.cells #[.func (.func 96) #[] #[.pointer (some ⟨w.heap.size, 0, none⟩), .pointer (some ⟨wm.heap.size, 0, none⟩), .pointer (some ⟨wm.heap.size + 1, 0, none⟩)]] 90)) :
    SeekMem (bare (bare Wv (w.heap.size + 1)) hb) tb hb (w.heap.size + 1) w.heap.size wm.heap.size (wm.heap.size + 1) fits room ∧ Kept (bare (bare Wv (w.heap.size + 1)) hb) Wv ∧ RowAt Value.bool Wv (w.heap.size + 1) (List.replicate room.length false) ∧ RowAt (Value.int .i64) Wv hb has ∧ Below w.heap.size w Wv ∧ Kept S (bare (bare Wv (w.heap.size + 1)) hb) := by
  have hsz : w.heap.size + 1 < wm.heap.size := (Array.getElem?_eq_some_iff.1 hblk).1
  have hb0 : Below w.heap.size w (w.alloc (.cells #[.pointer (some ⟨tb, 0, none⟩)] 68)) := (Below.refl _ _).alloc (Nat.le_refl _) _
  have hbm : Below w.heap.size w wm := hb0.trans (hb1.mono (by omega))
  have hmv : Below wm.heap.size wm Wv := by subst hWv; exact ((Below.refl _ _).alloc (Nat.le_refl _) _).alloc (by simp) _
  have hbv : Below w.heap.size w Wv := hbm.trans (hmv.mono (by omega))
  have hVS : Void S [w.heap.size + 1, hb] := fun p v hp hx => by
    rcases List.mem_cons.1 hx with e | e
    · have := cell_lt (hK _ _ hp); omega
    · exact hV p v hp e
  have hKS : Kept S (bare (bare Wv (w.heap.size + 1)) hb) := (hK.trans (Kept.of_below hbv)).bare2 hVS
  have q : ∀ (b : Nat) (v : Value), Wv.cell? ⟨b, 0, none⟩ = some v → b ≠ w.heap.size + 1 → b ≠ hb → (bare (bare Wv (w.heap.size + 1)) hb).cell? ⟨b, 0, none⟩ = some v := fun b v h h1 h2 => by
    rw [bare_cell (p := ⟨b, 0, none⟩) h2, bare_cell (p := ⟨b, 0, none⟩) h1]; exact h
  refine ⟨⟨hT.kept hKS, q _ _ ?_ (by omega) (by omega), q _ _ ?_ (by omega) (by omega), q _ _ ?_ (by omega) (by omega), bare2_void _ _ _, by omega⟩, bare2_kept _ _ _, ?_, (hH.below hbv), hbv, hKS⟩
  · refine (hmv.cell (p := ⟨w.heap.size, 0, none⟩) (show w.heap.size < wm.heap.size by omega)).trans ((hb1.cell (p := ⟨w.heap.size, 0, none⟩) (Nat.lt_succ_self _)).trans ?_)
    simp
  · subst hWv; simp
  · subst hWv; simp
  · intro j hj
    have hg : Wv.heap[w.heap.size + 1]? = some (.cells (List.replicate room.length (.bool false)).toArray 4 (0, 0)) := (hmv.block _ hsz).trans hblk
    simp only [List.length_replicate] at hj
    exact ⟨by simp [World.cell?, hg, hj], by simp [World.frozen?, hg]⟩

set_option maxRecDepth 100000 in
set_option maxHeartbeats 4000000 in
theorem give_any (S : World) (tb hb : Nat) (fits : List (List Int)) (room : List Int) (hT : TrialAt S tb hb fits room) (hV : Void S [hb]) (hn : fits.length ≤ 100) (hm : room.length ≤ 300) (hl : ∀ l ∈ fits, l.length ≤ 1000)
    (f : Nat) (has : List Int) (w : World) (hf : f < fits.length) (hp : Part fits room has) (hno : hasOf has f = -1) (hne : fitOf fits f ≠ []) (hK : Kept S w) (hH : RowAt (Value.int .i64) w hb has) :
    Calls Try.prog 87 #[.pointer (some ⟨tb, 0, none⟩), .int .i64 f] w (GivePost fits room f has hb w) := by
  obtain ⟨_, ⟨As, cs, t1⟩, _, _, _⟩ := id hT
  obtain ⟨i, i1, i2, i3, i4⟩ := bools_info
  have IB : Hid (i.bytes = 1) := hid i4
  have hbl : hb < w.heap.size := hH.lt (by rw [hp.lenH]; omega)
  have w1 := hK _ _ t1
  have htb : tb < w.heap.size := cell_lt w1
  have HT := hid hT
  have HV := hid hV
  have HP := hid hp
  have HNO := hid hno
  have HNE := hid hne
  have HK := hid hK
  have HH := hid hH
  clear i4 hT hV hp hno hne hK hH
  go_enter Try.func87, Try.ntmps87
  go_wp2_with (at_make; refine wpList_make_full _ rfl _ _ 104 rfl (w.heap.size + 1) 4 i (.bool false) 1 boolsl_u i1 i2 i3 .i64 .i64 _ _ room.length rfl rfl rfl rfl ?_ ?_ (by simp) ?_)
  · rw [IB.out]; omega
  · unfold maxLen; omega
  rintro wm hown hgrow
  rw [made1] at hown
  have hblk : Hid (wm.heap[w.heap.size + 1]? = some (.cells (List.replicate room.length (.bool false)).toArray 4 (0, 0))) := hid (own_block hown).1
  have hb0 : Below w.heap.size w (w.alloc (.cells #[.pointer (some ⟨tb, 0, none⟩)] 68)) := (Below.refl _ _).alloc (Nat.le_refl _) _
  have hb1 : Below (w.heap.size + 1) (w.alloc (.cells #[.pointer (some ⟨tb, 0, none⟩)] 68)) wm := Below.of_grown hgrow (by simp) (fun k e => by cases e)
  have hmf : ∀ (fn : Fn) (first cap : Array Value) (w : World), (Instr.makeFunc fn first cap).run Try.prog w = .ok (.func fn first cap) w := fun _ _ _ _ => rfl
  have hmem := hid (give_mem S w wm tb hb fits room has HT.out HV.out HK.out HH.out hbl hb1 hblk.out _ rfl)
  have hsz : w.heap.size + 1 < wm.heap.size := (Array.getElem?_eq_some_iff.1 hblk.out).1
  clear hown hgrow hb0 hb1 hblk
  go_wp2_with fail
  obtain ⟨m1, m2, m3, m4, m5, m6⟩ := hmem.out
  refine (seek_any _ tb hb _ _ _ _ fits room m1 (by omega) (by omega) hl _ f _ has _ (Nat.le_refl _) hf HP.out.seekIn m2 m3 m4).mono ?_
  have HM6 := hid m6
  have HM2 := hid m2
  have HM1 := hid m1
  have HM5 := hid m5
  rintro e wd ⟨ho, ⟨rfl, s2, h2, hok, hsd, hhd⟩ | ⟨rfl, s2, hno, hsd, hhd⟩⟩
  · have ho2 := hid (((Only.of_below HM5.out).trans ho).shrink (by omega))
    have HOK := hid hok
    have HHD := hid hhd
    clear ho hok hsd hhd m1 m2 m3 m4 m5 m6 hmem
    go_wp2_with fail
    go_ret2
    exact ⟨ho2.out, .inl ⟨rfl, h2, HOK.out.give, HHD.out⟩⟩
  · have ho2 := hid (((Only.of_below HM5.out).trans ho).shrink (by omega))
    have hKd := hid (HM2.out.only HM1.out.void ho)
    have HSD := hid hsd
    have HHD := hid hhd
    have HNO2 := hid hno
    have e1 := hKd.out _ _ HM1.out.c1
    have e2 := hKd.out _ _ HM1.out.c2
    have l1 := cell_lt e1
    have l2 := cell_lt e2
    clear ho hno hsd hhd m1 m2 m3 m4 m5 m6 hmem
    have hs2l : s2.length = room.length := by rw [HNO2.out.lenS]; simp
    have e4 : ∃ c, wd.cell? ⟨tb, 4, none⟩ = some (.slice (some ⟨hb, 0, none⟩) has.length c) := by
      obtain ⟨c, h⟩ := HT.out.hasAt
      exact ⟨c, by rw [HP.out.lenH]; exact (HM6.out.trans hKd.out) _ _ h⟩
    obtain ⟨ch, e4⟩ := e4
    have E4 := hid e4
    have E1 := hid e1
    have HS2L := hid hs2l
    have hstart : Hid ((wd.alloc (.cells #[.int .i64 (f : Int)] 3)).ownsRow wd.heap.size 3 1 (.slice (some ⟨wd.heap.size, 0, none⟩) 1 1) (hallTo s2 has f 0).length (ints (nats (hallTo s2 has f 0)))) := hid (block_own (heap_alloc_new wd _) (by simp [hallTo, nats, ints]) (Nat.le_refl _) (by decide))
    have hlH : has.length ≤ 100 := by rw [HP.out.lenH]; exact hn
    clear e4 hs2l
    go_wp2_with fail
    clear e1 e2
    go_loopg [8, 26] (room.length) (fun g v i wr => ∃ k : Nat, k ≤ room.length ∧ g = room.length - k ∧ i = .int .i64 k ∧ Hid (wr.ownsRow wd.heap.size 3 1 v (hallTo s2 has f k).length (ints (nats (hallTo s2 has f k)))) ∧ Hid (Below wd.heap.size wd wr))
    case atStart => exact ⟨0, by omega, by omega, rfl, hstart, hid ((Below.refl _ _).alloc (Nat.le_refl _) _)⟩
    case round =>
      obtain ⟨k, hk, hgk, rfl, hown, hbw⟩ := hrel
      by_cases hlt : k < room.length
      · have hks : k < s2.length := by have := HS2L.out; omega
        have c1 := (hbw.out.cell (p := ⟨w.heap.size, 0, none⟩) l1).trans E1.out
        have c2 := (HSD.out.below hbw.out k hks).1
        rcases hsk : s2[k] with _ | _
        · rw [hsk] at c2
          have HSK := hid hsk
          clear hsk
          go_wp2_with fail
          go_roundg (room.length - (k + 1))
          case measure => omega
          case rel =>
            have hh : hallTo s2 has f (k + 1) = hallTo s2 has f k := by
              rw [hallTo, if_neg (by rw [List.getElem?_eq_getElem hks, HSK.out]; simp), List.append_nil]
            exact ⟨k + 1, by omega, rfl, by go_num, by rw [hh]; exact hown, hbw⟩
        · rw [hsk] at c2
          have HSK := hid hsk
          clear hsk
          go_wp2_with fail
          refine (at_box tb k _).mono ?_
          rintro e wa ⟨B4, B5, rfl, hba, ha1, ha2⟩
          have hbwa := hbw.out.trans (hba.mono hbw.out.size)
          have hha := HHD.out.below hbwa
          have hbl2 : hb < wa.heap.size := hha.lt (by rw [HP.out.lenH]; omega)
          go_wp2_with fail
          refine (collect_any B4 B5 tb ch (some ⟨hb, 0, none⟩) has k (by omega) wa ha1 ha2 ((Kept.of_below hbwa) _ _ E4.out) hha.intsAt (fun a ha => by cases ha; exact hbl2)).mono ?_
          rintro e wb ⟨v2, rfl, hown2, hbb⟩
          obtain ⟨A, cap, rfl, hA⟩ := ownsRow.ints hown2
          have hown3 := own_below (own_below hown.out hba) hbb
          have hbwb := hbwa.trans (hbb.mono hbwa.size)
          have hle := hallTo_length (seen := s2) (f := f) hlH k
          have hle2 : (hold has (k : Int)).length ≤ 100 := by unfold hold; have := holdTo_le has (k : Int) has.length; omega
          obtain ⟨v', w', hr, ho', hg'⟩ := app_ints (c := cap) (A := A) (ys := nats (hold has (k : Int))) (by rw [nats_length]; exact hown3) hA (by rw [nats_length, nats_length]; omega) hbwb.size
          rw [nats_length] at hr
          have HR := hid hr
          have HO := hid ho'
          have HG := hid hg'
          have HB := hid hbwb
          have HO3 := hid hown3
          clear hr ho' hg' hbwb hown3 hbwa hha hba hbb ha1 ha2 hown2 hA
          go_wp2_with (at_builtin; refine wpList_app rfl rfl rfl rfl rfl HR.out ?_)
          go_roundg (room.length - (k + 1))
          case measure => omega
          case rel =>
            have hh : hallTo s2 has f (k + 1) = hallTo s2 has f k ++ hold has (k : Int) := by
              rw [hallTo, if_pos (by rw [List.getElem?_eq_getElem hks, HSK.out])]
            refine ⟨k + 1, by omega, rfl, by go_num, hid ?_, hid (HB.out.grown HG.out HB.out.size (fun g e => (HO3.out.lt g e).1))⟩
            rw [hh]
            have := HO.out
            simpa [nats, ints] using this
      · obtain rfl : k = room.length := by omega
        obtain ⟨g, cap, rfl, hg1, hg2⟩ := own_slice hown.out hallTo_pos
        have hrow : RowAt (Value.int .i64) wr g (nats (hallTo s2 has f room.length)) := RowAt.of_own (by have := hown.out; rwa [← nats_length] at this)
        have hlen := hallTo_length (seen := s2) (f := f) hlH room.length
        have hpos := hallTo_pos (seen := s2) (has := has) (f := f) (k := room.length)
        have HROW := hid hrow
        clear hrow
        go_wp2_with fail
        refine (sort_row g cap _ _ _ (nats_length _) HROW.out (by rw [nats_length]; exact hpos) (by rw [nats_length]; omega)).mono ?_
        rintro e ws ⟨rfl, hso, hsr⟩
        have HSO := hid hso
        have HSR := hid hsr
        clear hso hsr
        go_wp2_with fail
        refine (compact_row g cap _ _ _ (by rw [List.length_mergeSort, nats_length]) HSR.out (by rw [List.length_mergeSort, nats_length]; omega) (by rw [List.length_mergeSort, nats_length]; exact hg2)).mono ?_
        rintro e wc ⟨rfl, hco, hcr⟩
        have HCO := hid hco
        have HCR := hid hcr
        clear hco hcr
        go_wp2_with fail
        go_ret2
        have hbg : hb ≠ g := by omega
        have hon := hbw.out.trans ((HSO.out.trans HCO.out).below (B := wd.heap.size) (fun x hx => by rw [List.mem_singleton] at hx; omega) hbw.out.size)
        refine ⟨ho2.out.then hon, .inr ⟨setList (nats (hallTo s2 has f room.length)), _, cap, rfl, HCR.out.intsAt, ?_, ((HHD.out.below hbw.out).only HSO.out (by simpa using hbg)).only HCO.out (by simpa using hbg)⟩⟩
        exact give_short HP.out hf HNO.out HNE.out HNO2.out (setList_spec _).1 (hall_mem HS2L.out HP.out.lenH)
end Go.Proofs.Ytpmdjbjnihhjeaa
