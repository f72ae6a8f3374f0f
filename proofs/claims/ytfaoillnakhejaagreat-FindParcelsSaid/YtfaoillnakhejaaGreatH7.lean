/- The reference: Mark, Name; The reference: span, different; The reference: same (two reports); Rows of parcels. -/
import Derived.Test.YtfaoillnakhejaaGreatH6
import Derived.BigQuiet
import Derived.Test.YtfaoillnakhejaaGreatG5
namespace Go.Proofs.YtfaoillnakhejaaGreat
set_option maxRecDepth 100000
open Go.RowKit
theorem bytes_at (s : ByteArray) (k : Nat) (h : k < s.size) : s.data.toList[k]'(by simpa using h) = s[k] := by simp; rfl
theorem badMark_iff (c : UInt8) {n : Int} (hn : n = c.toNat) : badMark c = !((decide (97 ≤ n) && decide (n ≤ 122)) || (decide (48 ≤ n) && decide (n ≤ 57)) || n == 63) := by
 unfold badMark
 rw [low_iff, dig_iff, eq_iff8, hn]
 rfl
theorem badName_iff (c : UInt8) {n : Int} (hn : n = c.toNat) : badName c = !((decide (97 ≤ n) && decide (n ≤ 122)) || (decide (48 ≤ n) && decide (n ≤ 57)) || n == 45) := by
 unfold badName
 rw [low_iff, dig_iff, eq_iff8, hn]
 rfl
theorem markB_bad (s : ByteArray) : markB s = (decide (1 ≤ s.size ∧ s.size ≤ 12) && !s.data.toList.any badMark) := by
 unfold markB
 have h2 := any_bad s.data.toList (fun c => isLow c || isDig c || c == 63)
 rw [show (fun c => !(isLow c || isDig c || c == 63)) = badMark from rfl] at h2
 rw [h2, Bool.not_not]
theorem nameB_bad (s : ByteArray) (h : 0 < s.size) : nameB s = (decide (1 ≤ s.size ∧ s.size ≤ 24) && (decide ((97 : Int) ≤ s[0].toNat) && decide ((s[0].toNat : Int) ≤ 122)) && !s.data.toList.any badName) := by
 rw [nameB_of s h]
 have h2 := any_bad s.data.toList (fun c => isLow c || isDig c || c == 45)
 rw [show (fun c => !(isLow c || isDig c || c == 45)) = badName from rfl] at h2
 rw [h2, Bool.not_not]
set_option maxHeartbeats 8000000 in
theorem rmark_any (s : ByteArray) (w : World) (hs : s.size ≤ 1000000) : Calls Tryz.prog 151 #[.string s] w fun e w' => e = .returned (.bool (markB s)) ∧ w' = w := by
 have HMB := hid (markB_bad s)
 go_enter Tryz.func151, Tryz.ntmps151
 go_upto_region 2 with fail
 go_loopg [3] (s.size) (fun g i wr => ∃ k : Nat, k ≤ s.size ∧ g = s.size - k ∧ i = .int .i64 k ∧ Hid ((s.data.toList.take k).any badMark = false) ∧ w = wr)
 case atStart => exact ⟨0, by omega, by omega, rfl, hid (by simp), rfl⟩
 case round =>
  obtain ⟨k, hk, hgk, rfl, hno, rfl⟩ := hrel
  by_cases hlt : k < s.size
  ·have HSN := hid (any_take_snocMark s.data.toList k (by simpa using hlt))
   have hby := bytes_at s k hlt
   have HMEM : Hid (s[k] ∈ s.data.toList) := hid (by rw [← hby]; exact List.getElem_mem _)
   rw [hby] at HSN
   have i0 : (0 : Int) ≤ k := by omega
   have i1 : (k : Int) < s.size := by omega
   obtain ⟨ch, hch⟩ : ∃ ch : Nat, s[k].toNat = ch := ⟨_, rfl⟩
   have HBM := hid (badMark_iff (s[k]'hlt) (n := (ch : Int)) (by rw [hch]))
   have h0 : (0 : Int) ≤ ch := by omega
   clear hby
   by_cases h1 : (ch : Int) < 97
   ·by_cases h3 : (ch : Int) < 48
    ·by_cases h5 : (ch : Int) = 63
     ·exact absurd h5 (by omega)
     ·go_wp2_with fail
      go_ret
      have hb : badMark s[k] = true := by rw [HBM.out]; simp <;> omega
      refine ⟨ret_bool ?_, rfl⟩
      rw [HMB.out, List.any_eq_true.2 ⟨_, HMEM.out, hb⟩]
      simp
    ·by_cases h4 : 57 < (ch : Int)
     ·by_cases h5 : (ch : Int) = 63
      ·go_wp2_with fail
       go_roundg (s.size - (k + 1))
       case measure => omega
       case rel => exact ⟨k + 1, by omega, rfl, by go_num, hid (by rw [HSN.out, hno.out, HBM.out]; simp <;> omega), rfl⟩
      ·go_wp2_with fail
       go_ret
       have hb : badMark s[k] = true := by rw [HBM.out]; simp <;> omega
       refine ⟨ret_bool ?_, rfl⟩
       rw [HMB.out, List.any_eq_true.2 ⟨_, HMEM.out, hb⟩]
       simp
     ·go_wp2_with fail
      go_roundg (s.size - (k + 1))
      case measure => omega
      case rel => exact ⟨k + 1, by omega, rfl, by go_num, hid (by rw [HSN.out, hno.out, HBM.out]; simp <;> omega), rfl⟩
   ·by_cases h2 : 122 < (ch : Int)
    ·by_cases h5 : (ch : Int) = 63
     ·exact absurd h5 (by omega)
     ·have h57 : 57 < (ch : Int) := by omega
      have h48 : ¬ (ch : Int) < 48 := by omega
      go_wp2_with fail
      go_ret
      have hb : badMark s[k] = true := by rw [HBM.out]; simp <;> omega
      refine ⟨ret_bool ?_, rfl⟩
      rw [HMB.out, List.any_eq_true.2 ⟨_, HMEM.out, hb⟩]
      simp
    ·go_wp2_with fail
     go_roundg (s.size - (k + 1))
     case measure => omega
     case rel => exact ⟨k + 1, by omega, rfl, by go_num, hid (by rw [HSN.out, hno.out, HBM.out]; simp <;> omega), rfl⟩
  ·obtain rfl : k = s.size := by omega
   have hno2 := hno.out
   rw [List.take_of_length_le (by simp)] at hno2
   have HNO := hid hno2
   clear hno hno2
   go_wp2_with fail
   all_goals go_ret
   all_goals
    refine ⟨ret_bool ?_, rfl⟩
    rw [HMB.out, HNO.out, Bool.eq_iff_iff]
    simp <;> omega
set_option maxHeartbeats 8000000 in
theorem rname_any (s : ByteArray) (w : World) (hs : s.size ≤ 1000000) : Calls Tryz.prog 152 #[.string s] w fun e w' => e = .returned (.bool (nameB s)) ∧ w' = w := by
 by_cases hlen : 1 ≤ s.size ∧ s.size ≤ 24
 ·have hpos : 0 < s.size := by omega
  have HMB := hid (nameB_bad s hpos)
  obtain ⟨c0, hc0⟩ : ∃ c0 : Nat, s[0].toNat = c0 := ⟨_, rfl⟩
  rw [hc0] at HMB
  by_cases hlo : (c0 : Int) < 97
  ·go_enter Tryz.func152, Tryz.ntmps152
   go_wp2_with fail
   go_ret
   refine ⟨ret_bool ?_, rfl⟩
   rw [HMB.out, decide_eq_false (by omega : ¬ (97 : Int) ≤ c0)]
   simp
  by_cases hhi : (122 : Int) < c0
  ·go_enter Tryz.func152, Tryz.ntmps152
   go_wp2_with fail
   go_ret
   refine ⟨ret_bool ?_, rfl⟩
   rw [HMB.out, decide_eq_false (by omega : ¬ (c0 : Int) ≤ 122)]
   simp
  have hmb2 := HMB.out
  rw [decide_eq_true hlen, decide_eq_true (by omega : (97 : Int) ≤ c0), decide_eq_true (by omega : (c0 : Int) ≤ 122), Bool.true_and, Bool.true_and, Bool.true_and] at hmb2
  clear HMB
  have HMB := hid hmb2
  clear hmb2
  go_enter Tryz.func152, Tryz.ntmps152
  go_upto_region 4 with fail
  clear hc0 hlo hhi
  go_loopg [3] (s.size) (fun g i wr => ∃ k : Nat, k ≤ s.size ∧ g = s.size - k ∧ i = .int .i64 k ∧ Hid ((s.data.toList.take k).any badName = false) ∧ w = wr)
  case atStart => exact ⟨0, by omega, by omega, rfl, hid (by simp), rfl⟩
  case round =>
   obtain ⟨k, hk, hgk, rfl, hno, rfl⟩ := hrel
   by_cases hlt : k < s.size
   ·have HSN := hid (any_take_snocName s.data.toList k (by simpa using hlt))
    have hby := bytes_at s k hlt
    have HMEM : Hid (s[k] ∈ s.data.toList) := hid (by rw [← hby]; exact List.getElem_mem _)
    rw [hby] at HSN
    have i0 : (0 : Int) ≤ k := by omega
    have i1 : (k : Int) < s.size := by omega
    obtain ⟨ch, hch⟩ : ∃ ch : Nat, s[k].toNat = ch := ⟨_, rfl⟩
    have HBM := hid (badName_iff (s[k]'hlt) (n := (ch : Int)) (by rw [hch]))
    have h0 : (0 : Int) ≤ ch := by omega
    clear hby
    by_cases h1 : (ch : Int) < 97
    ·by_cases h3 : (ch : Int) < 48
     ·by_cases h5 : (ch : Int) = 45
      ·go_wp2_with fail
       go_roundg (s.size - (k + 1))
       case measure => omega
       case rel => exact ⟨k + 1, by omega, rfl, by go_num, hid (by rw [HSN.out, hno.out, HBM.out]; simp <;> omega), rfl⟩
      ·go_wp2_with fail
       go_ret
       have hb : badName s[k] = true := by rw [HBM.out]; simp <;> omega
       refine ⟨ret_bool ?_, rfl⟩
       rw [HMB.out, List.any_eq_true.2 ⟨_, HMEM.out, hb⟩]
       simp
     ·by_cases h4 : 57 < (ch : Int)
      ·by_cases h5 : (ch : Int) = 45
       ·exact absurd h5 (by omega)
       ·go_wp2_with fail
        go_ret
        have hb : badName s[k] = true := by rw [HBM.out]; simp <;> omega
        refine ⟨ret_bool ?_, rfl⟩
        rw [HMB.out, List.any_eq_true.2 ⟨_, HMEM.out, hb⟩]
        simp
      ·go_wp2_with fail
       go_roundg (s.size - (k + 1))
       case measure => omega
       case rel => exact ⟨k + 1, by omega, rfl, by go_num, hid (by rw [HSN.out, hno.out, HBM.out]; simp <;> omega), rfl⟩
    ·by_cases h2 : 122 < (ch : Int)
     ·by_cases h5 : (ch : Int) = 45
      ·exact absurd h5 (by omega)
      ·have h57 : 57 < (ch : Int) := by omega
       have h48 : ¬ (ch : Int) < 48 := by omega
       go_wp2_with fail
       go_ret
       have hb : badName s[k] = true := by rw [HBM.out]; simp <;> omega
       refine ⟨ret_bool ?_, rfl⟩
       rw [HMB.out, List.any_eq_true.2 ⟨_, HMEM.out, hb⟩]
       simp
     ·go_wp2_with fail
      go_roundg (s.size - (k + 1))
      case measure => omega
      case rel => exact ⟨k + 1, by omega, rfl, by go_num, hid (by rw [HSN.out, hno.out, HBM.out]; simp <;> omega), rfl⟩
   ·obtain rfl : k = s.size := by omega
    have hno2 := hno.out
    rw [List.take_of_length_le (by simp)] at hno2
    have HNO := hid hno2
    clear hno hno2
    go_wp2_with fail
    go_ret
    refine ⟨ret_bool ?_, rfl⟩
    rw [HMB.out, HNO.out]
    rfl
 ·have h1 : nameB s = false := by
   unfold nameB
   rw [decide_eq_false hlen]
   rfl
  rw [h1]
  clear h1
  by_cases h2 : (s.size : Int) < 1
  ·go_enter Tryz.func152, Tryz.ntmps152
   go_wp2_with fail
   go_ret
   exact ⟨rfl, rfl⟩
  ·have h3 : (24 : Int) < s.size := by omega
   clear hlen
   go_enter Tryz.func152, Tryz.ntmps152
   go_wp2_with fail
   go_ret
   exact ⟨rfl, rfl⟩
set_option maxHeartbeats 4000000 in
theorem rspan_any (lo hi : Int) (w : World) : Calls Tryz.prog 153 #[.agg #[.int .i64 lo, .int .i64 hi]] w fun e w' => e = .returned (.bool (spanB lo hi)) ∧ Below w.heap.size w w' := by
 have hb : spanB lo hi = (decide (1 ≤ lo ∧ lo ≤ hi) && decide (hi ≤ 100000)) := by
  unfold spanB
  rw [Bool.eq_iff_iff]
  simp only [Bool.and_eq_true, decide_eq_true_eq]
  omega
 rw [hb]
 clear hb
 obtain ⟨t, ht⟩ : ∃ t, decide (1 ≤ lo ∧ lo ≤ hi) = t := ⟨_, rfl⟩
 rw [ht]
 have HT := hid ht
 clear ht
 go_enter Tryz.func153, Tryz.ntmps153
 go_wp2_with fail
 refine (rwithin_any lo 1 hi _).mono ?_
 rintro e w' ⟨rfl, rfl⟩
 rw [HT.out]
 cases t
 all_goals
  go_wp2_with fail
  go_ret
  exact ⟨ret_bool (by simp), (Below.refl _ _).alloc (Nat.le_refl _) _⟩
theorem partsB_of (l : List Int) : partsB l = (decide (2 ≤ l.length ∧ l.length ≤ 8) && (l.all parcelB && decide l.Nodup)) := by
 unfold partsB
 rw [Bool.and_assoc]
set_option maxHeartbeats 8000000 in
theorem rdifferent_any (A : Option Addr) (cap : Nat) (l : List Int) (w : World) (hm : l.length ≤ 1000000) (hA : IntsAt w A l) :
  Calls Tryz.prog 155 #[.slice A l.length cap] w fun e w' => e = .returned (.bool (partsB l)) ∧ Below w.heap.size w w' := by
 have HA := hid hA
 have HP := hid (partsB_of l)
 clear hA
 go_enter Tryz.func155, Tryz.ntmps155
 go_upto_region 2 with fail
 go_loopg [3] (l.length) (fun g i wr => ∃ k : Nat, k ≤ l.length ∧ g = l.length - k ∧ i = .int .i64 k ∧ Hid ((l.take k).all parcelB = true ∧ (l.take k).Nodup) ∧ Hid (Below w.heap.size w wr))
 case atStart => exact ⟨0, by omega, by omega, rfl, hid (by simp), hid (Below.refl _ _)⟩
 case round =>
  obtain ⟨k, hk, hgk, rfl, hno, hbw⟩ := hrel
  obtain ⟨V, hV⟩ : ∃ V, V = wr := ⟨_, rfl⟩
  subst hV
  by_cases hlt : k < l.length
  ·obtain ⟨b, off, hAe, hc⟩ := (HA.out.kept (Kept.of_below hbw.out)) (by omega)
   subst hAe
   have hck := hc k hlt
   have i0 : (0 : Int) ≤ k := by omega
   have i1 : (k : Int) < l.length := by omega
   have hsn : l.take (k + 1) = l.take k ++ [l[k]] := List.take_succ_eq_append_getElem hlt
   have hmem := List.getElem_mem hlt
   have hndp : ∀ m, (h : m < k) → l[m] = l[k] → ¬ l.Nodup := fun m h e hn => by
    exact (List.pairwise_iff_getElem.1 hn) m k (by omega) hlt h e
   have HC := hid hc
   have hxv : ∀ m (h : m < l.length) (h2 : m < k), (l[m] ∈ l.take k) := fun m h h2 => by
    rw [List.mem_take_iff_getElem]
    exact ⟨m, by omega, rfl⟩
   obtain ⟨v, hv⟩ : ∃ v, l[k] = v := ⟨_, rfl⟩
   rw [hv] at hck hsn hmem
   simp only [hv] at hndp
   have HSN := hid hsn
   have HM := hid hmem
   have HND := hid hndp
   clear hc hsn hv hmem hndp hxv
   rcases hp : parcelB v with _ | _
   ·have HPV := hid hp
    clear hp
    go_wp2_with fail
    refine (rparcel_any v _).mono ?_
    rintro e w1 ⟨rfl, rfl⟩
    rw [HPV.out]
    go_wp2_with fail
    go_ret
    refine ⟨ret_bool ?_, hbw.out⟩
    have : l.all parcelB = false := List.all_eq_false.2 ⟨v, HM.out, by rw [HPV.out]; simp⟩
    rw [HP.out, this]
    simp
   ·have HPV := hid hp
    clear hp
    go_wp2_with fail
    refine (rparcel_any v _).mono ?_
    rintro e w1 ⟨rfl, rfl⟩
    rw [HPV.out]
    go_upto_region 7 with fail
    go_loopg [4] (k) (fun g i wq => ∃ m : Nat, m ≤ k ∧ g = k - m ∧ i = .int .i64 m ∧ Hid (v ∉ l.take m) ∧ Hid (Below w1.heap.size w1 wq))
    case atStart => exact ⟨0, by omega, by omega, rfl, hid (by simp), hid (Below.refl _ _)⟩
    case round =>
     obtain ⟨m, hm, hgm, rfl, hnm, hbq⟩ := hrel
     have hck2 := (Kept.of_below hbq.out) _ _ hck
     by_cases hml : m < k
     ·have hmk : m < l.length := by omega
      have hcm := (Kept.of_below hbq.out) _ _ (HC.out m hmk)
      have j0 : (0 : Int) ≤ m := by omega
      have j1 : (m : Int) < l.length := by omega
      have j2 : (m : Int) < k := by omega
      have hsm : l.take (m + 1) = l.take m ++ [l[m]] := List.take_succ_eq_append_getElem hmk
      have hnd := HND.out m hml
      obtain ⟨u, hu⟩ : ∃ u, l[m] = u := ⟨_, rfl⟩
      rw [hu] at hcm hsm hnd
      have HSM := hid hsm
      have HNDM := hid hnd
      clear hsm hnd hu hck
      by_cases he : v = u
      ·have de : (v == u) = true := beq_iff_eq.2 he
       have HE := hid he
       clear he
       go_upto_region 9 with fail
       go_quiet (fail)
       go_wp2_with fail
       go_ret
       refine ⟨ret_bool ?_, Below.drewN' (hbw.out.trans (hbq.out.mono hbw.out.size)) _⟩
       rw [HP.out, decide_eq_false (HNDM.out HE.out.symm)]
       simp
      ·have de : (v == u) = false := beq_eq_false_iff_ne.2 he
       have HE := hid he
       clear he
       go_upto_region 9 with fail
       go_quiet (fail)
       go_wp2_with fail
       go_roundg (k - (m + 1))
       case measure => omega
       case rel => exact ⟨m + 1, by omega, rfl, by go_num, hid (by
        rw [HSM.out, List.mem_append, List.mem_singleton]
        rintro (h | h)
        ·exact hnm.out h
        ·exact HE.out h), hid (Below.drewN' hbq.out _)⟩
     ·obtain rfl : m = k := by omega
      clear hck hck2
      go_wp2_with fail
      go_roundg (l.length - (m + 1))
      case measure => omega
      case rel => exact ⟨m + 1, by omega, rfl, by go_num, hid (by
       rw [HSN.out]
       refine ⟨?_, ?_⟩
       ·rw [List.all_append, hno.out.1]
        simp [HPV.out]
       ·rw [List.nodup_append]
        refine ⟨hno.out.2, by simp, fun a ha b hb => ?_⟩
        rw [List.mem_singleton] at hb
        subst hb
        rintro rfl
        exact hnm.out ha), hid (hbw.out.trans (hbq.out.mono hbw.out.size))⟩
  ·obtain rfl : k = l.length := by omega
   have hno2 := hno.out
   rw [List.take_length] at hno2
   have HNO := hid hno2
   clear hno hno2
   go_wp2_with fail
   all_goals go_ret
   all_goals
    refine ⟨ret_bool ?_, hbw.out⟩
    rw [HP.out, HNO.out.1, decide_eq_true HNO.out.2, Bool.eq_iff_iff]
    simp <;> omega
theorem rsame_t (A : Option Addr) (cap : Nat) (xs : List Int) (B : Option Addr) (cb : Nat) (ys : List Int) (w : World) (hm : xs.length ≤ 1000000) (hm2 : ys.length ≤ 1000000) (hA : IntsAt w A xs) (hB : IntsAt w B ys) {t : Bool} (ht : decide (xs = ys) = t) :
  Calls Tryz.prog 15 #[.slice A xs.length cap, .slice B ys.length cb] w fun e w' => e = .returned (.bool t) ∧ Below w.heap.size w w' := by
 subst ht
 exact sameInts_any A cap xs B cb ys w hm hm2 hA hB
set_option maxHeartbeats 8000000 in
theorem rsame_any (r s : Rep) (A B : Option Addr) (c d : Nat) (w : World) (hr : r.parts.length ≤ 100) (hs : s.parts.length ≤ 100) (hA : IntsAt w A r.parts) (hB : IntsAt w B s.parts) :
  Calls Tryz.prog 86 #[r.val A c, s.val B d] w fun e w' => e = .returned (.bool (decide (r = s))) ∧ Below w.heap.size w w' := by
 obtain ⟨W, hW, hbx, hbW, hlt⟩ := boxC r A c w
 obtain ⟨V, hV, hby, hbV, hltV⟩ := boxC s B d W
 have HX := hid (hbx.below hbV).at_
 have HY := hid hby.at_
 have hWV : Below w.heap.size w V := hbW.trans (hbV.mono hbW.size)
 have HA := hid (hA.kept (Kept.of_below hWV))
 have HB := hid (hB.kept (Kept.of_below hWV))
 have HWV := hid hWV
 clear hbW hbV hWV hltV hA hB hbx hby
 have HP := hid fun (t : Bool) (ht : decide (r.parts = s.parts) = t) => rsame_t A c r.parts B d s.parts V (by omega) (by omega) HA.out HB.out ht
 go_enter Tryz.func86, Tryz.ntmps86
 go_upto_region 1 with (fail)
 clear hW hV
 obtain ⟨c0, c1, c2, c3, c4, c5, c6, c7, c8, c9, c10, c11, c12, c13, c14⟩ := HX.out
 obtain ⟨e0, e1, e2, e3, e4, e5, e6, e7, e8, e9, e10, e11, e12, e13, e14⟩ := HY.out
 refine strip_lit ?_
 simp only [List.append_eq, List.map_cons, List.map_nil, strip, List.cons_append, List.nil_append]
 go_wp2_with fail
 all_goals try (
  go_ret
  refine ⟨ret_bool ?_, HWV.out⟩
  symm
  refine decide_eq_false ?_
  rintro rfl
  contradiction)
 rcases hp : decide (r.parts = s.parts) with _ | _
 ·have HPP := hid hp
  clear hp
  refine (HP.out _ HPP.out).mono ?_
  rintro e w1 ⟨rfl, hb⟩
  have HB1 := hid (HWV.out.trans (hb.mono HWV.out.size))
  clear hb
  go_wp2_with fail
  go_ret
  refine ⟨ret_bool ?_, HB1.out⟩
  symm
  exact decide_eq_false (fun e => of_decide_eq_false HPP.out (by rw [e]))
 ·have HPP := hid hp
  clear hp
  refine (HP.out _ HPP.out).mono ?_
  rintro e w1 ⟨rfl, hb⟩
  have HB1 := hid (HWV.out.trans (hb.mono HWV.out.size))
  have HX1 := hid (HX.out.kept (Kept.of_below hb))
  have HY1 := hid (HY.out.kept (Kept.of_below hb))
  clear hb c0 c1 c2 c3 c4 c5 c6 c7 c8 c9 c10 c11 c12 c13 c14 e0 e1 e2 e3 e4 e5 e6 e7 e8 e9 e10 e11 e12 e13 e14
  obtain ⟨_, _, _, _, _, _, _, c7, c8, c9, c10, c11, c12, c13, c14⟩ := HX1.out
  obtain ⟨_, _, _, _, _, _, _, e7, e8, e9, e10, e11, e12, e13, e14⟩ := HY1.out
  go_wp2_with fail
  all_goals go_ret
  all_goals refine ⟨ret_bool ?_, HB1.out⟩
  all_goals first
   | (symm
      refine decide_eq_false ?_
      rintro rfl
      contradiction)
   | (rw [Bool.eq_iff_iff, decide_eq_true_eq, beq_iff_eq]
      constructor
      · intro ho
        exact rep_ext (by assumption) (by assumption) (by assumption) (by assumption) (by assumption) (by assumption) (of_decide_eq_true HPP.out) (by assumption) (ba_inj (by assumption)) (ba_inj (by assumption)) (by assumption) (by assumption) (by assumption) (by assumption) ho
      · rintro rfl
        rfl)
def flatP (L : List Pcl) : List Value := L.flatMap fun e => e.cells.toList
theorem flatP_snoc (L : List Pcl) (e : Pcl) : flatP (L ++ [e]) = flatP L ++ e.cells.toList := by simp [flatP]
theorem pcells_length (e : Pcl) : e.cells.toList.length = 12 := rfl
theorem flatP_length (L : List Pcl) : (flatP L).length = L.length * 12 := by
 induction L with
 | nil => rfl
 | cons e L ih =>
  show (e.cells.toList ++ flatP L).length = _
  rw [List.length_append, ih, pcells_length, List.length_cons]
  omega
theorem flatP_at : ∀ (L : List Pcl) (i : Nat) (h : i < L.length) (j : Nat) (v : Value), L[i].cells.toList[j]? = some v → (flatP L)[i * 12 + j]? = some v
 | [], i, h, _, _, _ => by simp at h
 | e :: L, 0, h, j, v, hv => by
  show (e.cells.toList ++ flatP L)[0 * 12 + j]? = _
  have hj : j < 12 := by
   have := (List.getElem?_eq_some_iff.1 hv).1
   rwa [List.getElem_cons_zero, pcells_length] at this
  rw [Nat.zero_mul, Nat.zero_add, List.getElem?_append_left (by rw [pcells_length]; exact hj)]
  exact hv
 | e :: L, i + 1, h, j, v, hv => by
  show (e.cells.toList ++ flatP L)[(i + 1) * 12 + j]? = _
  rw [List.getElem?_append_right (by rw [pcells_length]; omega), pcells_length]
  have := flatP_at L i (by simpa using h) j v (by simpa using hv)
  rw [show (i + 1) * 12 + j - 12 = i * 12 + j by omega]
  exact this
def PclsAt (w : World) (A : Option Addr) (D : List Pcl) : Prop := 0 < D.length → ∃ b off, A = some ⟨b, off, none⟩ ∧ ∀ i (h : i < D.length), w.rangeAt b (off + i * 12) D[i].cells.toList
theorem PclsAt.kept {w w' : World} {A : Option Addr} {L : List Pcl} (h : PclsAt w A L) (k : Kept w w') : PclsAt w' A L := fun h0 => by
 obtain ⟨b, off, e, hc⟩ := h h0
 exact ⟨b, off, e, fun i hi => rangeAt_kept (hc i hi) k⟩
theorem pcls_of_cells {w : World} {A : Option Addr} {L : List Pcl} (h : CellsAt w A (flatP L)) : PclsAt w A L := fun h0 => by
 obtain ⟨b, off, e, hc⟩ := h (by rw [flatP_length]; omega)
 refine ⟨b, off, e, fun i hi j v hv => ?_⟩
 have := hc _ _ (flatP_at L i hi j v hv)
 rwa [← Nat.add_assoc] at this
theorem prange_at {w : World} {b o : Nat} {q : Pcl} (h : w.rangeAt b o q.cells.toList) :
  w.cell? ⟨b, o, none⟩ = some (.int .i64 q.id) ∧ w.cell? ⟨b, o + 1, none⟩ = some (.int .i64 q.from_) ∧ w.cell? ⟨b, o + 2, none⟩ = some (.int .i64 q.into) ∧ w.cell? ⟨b, o + 10, none⟩ = some (.bool q.found) :=
 ⟨h 0 _ rfl, h 1 _ rfl, h 2 _ rfl, h 10 _ rfl⟩
theorem pcls_info : ∃ i z, Tryz.prog.info? 38 = some i ∧ i.zero = some z ∧ i.size = 12 ∧ i.bytes ≤ 1000 ∧ z.cells.size = 12 := by
 have h : (Tryz.prog.info? 38).map (fun i => (i.zero.map (·.cells.size), i.size, decide (i.bytes ≤ 1000))) = some (some 12, 12, true) := by kernel_rfl
 rcases hi : Tryz.prog.info? 38 with _ | i
 ·rw [hi] at h; cases h
 ·rw [hi] at h
  simp only [Option.map_some, Option.some.injEq, Prod.mk.injEq, decide_eq_true_eq] at h
  obtain ⟨h1, h2, h3⟩ := h
  rcases hz : i.zero with _ | z
  ·rw [hz] at h1; cases h1
  ·rw [hz] at h1
   simp only [Option.map_some, Option.some.injEq] at h1
   exact ⟨i, z, rfl, hz, h2, h3, h1⟩
theorem pclsl_u : Tryz.prog.underlying 47 = some (.slice 38) := by kernel_rfl
/-- One parcel more behind a row of the call's own. -/
theorem app_pcl {w : World} {base : Nat} {v : Value} {L : List Pcl} (e : Pcl) (hown : w.ownsRow base 38 12 v L.length (flatP L)) (hl : L.length ≤ 10000) (hbase : base ≤ w.heap.size) :
  ∃ v' w', (Builtin.append_ #[47, 47] 47 #[v, .slice (some ⟨w.heap.size, 0, none⟩) 1 1]).run Tryz.prog (w.alloc (.cells e.cells 38)) = .ok v' w' ∧
   w'.ownsRow base 38 12 v' (L ++ [e]).length (flatP (L ++ [e])) ∧ Below base w w' := by
 obtain ⟨i, z, h1, h2, h3, h4, h5⟩ := pcls_info
 obtain ⟨v', w', hr, ho, hg⟩ := run_app (P := Tryz.prog) (w := w.alloc (.cells e.cells 38)) 47 (c := 1) (A := some ⟨w.heap.size, 0, none⟩) (news := e.cells.toList) (size := 12) pclsl_u h1 h2 h3 rfl h5 (by omega) (hown.alloc _) (m := 1) (by rw [pcells_length])
  (fun _ => ⟨w.heap.size, 0, rfl, fun j u hj => by rw [Nat.zero_add, cell_new]; simpa using hj⟩) (fun u hu => Array.all_eq_true_iff_forall_mem.1 (pcl_one e) u (by simpa using hu)) (by unfold maxLen; omega)
  (by
   have : (L.length + 1) * i.bytes ≤ 10001 * 1000 := Nat.mul_le_mul (by omega) h4
   omega) (by simp; omega)
 refine ⟨v', w', hr, ?_, ((Below.refl _ _).alloc hbase _).grown hg (by simp; omega) (fun g e => (hown.lt g e).1)⟩
 rw [flatP_snoc, List.length_append]
 exact ho
/-- A slice literal of one parcel. -/
theorem build_pcl {ops : Array Oper} {rest : List Oper} {o : Oper} {a : Act} {w : World} {Q : Exit → Act → World → Prop} (hgd : o.guard = none) (x : Operand) (ho : o.op = .buildSlice 47 1 #[(0, x)])
  {q : Pcl} (hx : a.eval x = q.val) (h : wpList Tryz.prog ops Q rest (a.put o.dst (.slice (some ⟨w.heap.size, 0, none⟩) 1 1)) (w.alloc (.cells q.cells 38))) : wpList Tryz.prog ops Q (o :: rest) a w := by
 obtain ⟨i, z, h1, h2, h3, h4, h5⟩ := pcls_info
 refine wpList_buildSlice hgd _ _ 1 #[(0, x)] ho q.cells i z pclsl_u h1 h2 (by omega) (by omega) ?_ h
 rw [h3]
 have h6 := Great.fill_whole (s := 12) (by omega) [q.val] ((Array.range (1 * 12)).map (z.cells[· % z.cells.size]!)) (by intro v hv; rw [List.mem_singleton] at hv; subst hv; rfl) (by simp)
 have h7 : (#[(0, x)].map fun (i, x) => (i, a.eval x)).toList = (([q.val].zipIdx 0).map fun x => (x.2, x.1)) := by
  simp [hx]
 rw [h7, h6]
 simp [Value.cells]
end Go.Proofs.YtfaoillnakhejaaGreat
