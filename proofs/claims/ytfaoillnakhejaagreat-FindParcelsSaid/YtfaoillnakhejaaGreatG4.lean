/- A region's operations without their edges: what a plain region does hangs on none of them, and a walk goes faster without; isMark and isName: ContainsFunc over bytes; isMark and isName; isName. -/
import Derived.Test.YtfaoillnakhejaaGreatG0
import Derived.Deep.Cut
import Derived.Test.YtfaoillnakhejaaGreatG2
import Derived.Laws.IdiomStrings
namespace Go.Proofs.YtfaoillnakhejaaGreat
set_option maxRecDepth 100000
open Go.RowKit
def strip (o : Oper) : Oper := ⟨o.dst, o.op, o.type, "", #[], o.guard⟩
theorem strip_wp {P : Program} {o : Oper} {a : Act} {w : World} {K : Act → World → Prop} {Q : Exit → Act → World → Prop} : Oper.wp P (strip o) a w K Q = Oper.wp P o a w K Q := by
  obtain ⟨dst, op, type, pos, after, guard⟩ := o
  rfl
theorem strip_asks {P : Program} {o : Oper} {a : Act} {w : World} : Oper.asks P (strip o) a w = Oper.asks P o a w := by
  obtain ⟨dst, op, type, pos, after, guard⟩ := o
  rfl
theorem strip_yielded (ops : Array Oper) (tmps : Array Value) : yielded (ops.map strip) tmps = yielded ops tmps := by
  funext j
  unfold yielded
  rw [Array.getElem?_map]
  cases ops[j]? <;> rfl
theorem strip_list {P : Program} {ops : Array Oper} {Q : Exit → Act → World → Prop} : ∀ {l : List Oper} {a : Act} {w : World}, wpList P (ops.map strip) Q (l.map strip) a w → wpList P ops Q l a w
  | [], a, w, h => h
  | o :: l, a, w, h => by
    unfold wpList at h ⊢
    rw [List.map_cons] at h
    dsimp only at h
    have hw : Region.wanted (strip o) (yielded (ops.map strip) a.tmps) = Region.wanted o (yielded ops a.tmps) := by
      rw [strip_yielded]
      rfl
    rw [hw] at h
    split
    · rename_i hc
      rw [if_pos hc] at h
      rcases h with h | h
      · rw [strip_wp] at h
        have hm : ∀ a w, wpList P (ops.map strip) Q (l.map strip) a w → wpList P ops Q l a w := fun a w => strip_list
        exact .inl (Oper.wp_mono hm h)
      · rw [strip_asks] at h
        exact .inr h
    · rename_i hc
      rw [if_neg hc] at h
      exact strip_list h
/-- At a plain region: go on without the edges ('refine strip_lit ?_; simp only [List.append_eq, List.map_cons, List.map_nil, strip, List.cons_append, List.nil_append]'). -/
theorem strip_lit {P : Program} {id : Nat} {l : List Oper} {Q : Exit → Act → World → Prop} {a : Act} {w : World} (h : wpList P (l.map strip).toArray Q (l.map strip) a w) : (Code.region id l.toArray false).wp P Q a w :=
  wp_region_lit (strip_list (by simpa using h))
/-- A slice that starts at A holds the bytes l. -/
def BytesAt (w : World) (A : Option Addr) (l : List UInt8) : Prop :=
  0 < l.length → ∃ b off, A = some ⟨b, off, none⟩ ∧ ∀ j (h : j < l.length), w.cell? ⟨b, off + j, none⟩ = some (.int .u8 l[j].toNat)
def badMark (c : UInt8) : Bool := !(isLow c || isDig c || c == 63)
def badName (c : UInt8) : Bool := !(isLow c || isDig c || c == 45)
theorem low_iff (c : UInt8) : isLow c = (decide ((97 : Int) ≤ c.toNat) && decide ((c.toNat : Int) ≤ 122)) := by
  unfold isLow
  rw [Bool.eq_iff_iff]
  simp [UInt8.le_iff_toNat_le]
  omega
theorem dig_iff (c : UInt8) : isDig c = (decide ((48 : Int) ≤ c.toNat) && decide ((c.toNat : Int) ≤ 57)) := by
  unfold isDig
  rw [Bool.eq_iff_iff]
  simp [UInt8.le_iff_toNat_le]
  omega
theorem eq_iff8 (c d : UInt8) : (c == d) = ((c.toNat : Int) == d.toNat) := by
  rw [Bool.eq_iff_iff, beq_iff_eq, beq_iff_eq]
  exact ⟨fun h => by rw [h], fun h => UInt8.toNat_inj.1 (by omega)⟩
set_option maxHeartbeats 1000000 in
theorem badMark_any (c : UInt8) (w : World) {n : Int} (hn : n = c.toNat) : Calls Tryz.prog 189 #[.int .u8 n] w fun e w' => e = .returned (.bool (badMark c)) ∧ w = w' := by
  have hb : badMark c = !((decide (97 ≤ n) && decide (n ≤ 122)) || (decide (48 ≤ n) && decide (n ≤ 57)) || n == 63) := by
    unfold badMark
    rw [low_iff, dig_iff, eq_iff8, hn]
    rfl
  have h0 : 0 ≤ n := by omega
  have HB := hid hb
  clear hb hn
  by_cases h1 : n < 97
  · by_cases h3 : n < 48
    · by_cases h5 : n = 63
      all_goals
        go_enter Tryz.func189, Tryz.ntmps189
        go_wp2_with fail
        go_ret
        exact ⟨ret_bool (by rw [HB.out, Bool.eq_iff_iff]; simp <;> omega), rfl⟩
    · by_cases h4 : 57 < n
      all_goals
        by_cases h5 : n = 63
        all_goals
          go_enter Tryz.func189, Tryz.ntmps189
          go_wp2_with fail
          go_ret
          exact ⟨ret_bool (by rw [HB.out, Bool.eq_iff_iff]; simp <;> omega), rfl⟩
  · by_cases h2 : 122 < n
    all_goals
      go_enter Tryz.func189, Tryz.ntmps189
      go_wp2_with fail
      go_ret
      exact ⟨ret_bool (by rw [HB.out, Bool.eq_iff_iff]; simp <;> omega), rfl⟩
set_option maxHeartbeats 1000000 in
theorem badName_any (c : UInt8) (w : World) {n : Int} (hn : n = c.toNat) : Calls Tryz.prog 190 #[.int .u8 n] w fun e w' => e = .returned (.bool (badName c)) ∧ w = w' := by
  have hb : badName c = !((decide (97 ≤ n) && decide (n ≤ 122)) || (decide (48 ≤ n) && decide (n ≤ 57)) || n == 45) := by
    unfold badName
    rw [low_iff, dig_iff, eq_iff8, hn]
    rfl
  have h0 : 0 ≤ n := by omega
  have HB := hid hb
  clear hb hn
  by_cases h1 : n < 97
  · by_cases h3 : n < 48
    · by_cases h5 : n = 45
      all_goals
        go_enter Tryz.func190, Tryz.ntmps190
        go_wp2_with fail
        go_ret
        exact ⟨ret_bool (by rw [HB.out, Bool.eq_iff_iff]; simp <;> omega), rfl⟩
    · by_cases h4 : 57 < n
      all_goals
        by_cases h5 : n = 45
        all_goals
          go_enter Tryz.func190, Tryz.ntmps190
          go_wp2_with fail
          go_ret
          exact ⟨ret_bool (by rw [HB.out, Bool.eq_iff_iff]; simp <;> omega), rfl⟩
  · by_cases h2 : 122 < n
    all_goals
      go_enter Tryz.func190, Tryz.ntmps190
      go_wp2_with fail
      go_ret
      exact ⟨ret_bool (by rw [HB.out, Bool.eq_iff_iff]; simp <;> omega), rfl⟩
theorem any_take_snocMark (l : List UInt8) (k : Nat) (h : k < l.length) : (l.take (k + 1)).any badMark = ((l.take k).any badMark || badMark l[k]) := by
  rw [List.take_succ_eq_append_getElem h, List.any_append, List.any_cons, List.any_nil, Bool.or_false]
set_option maxHeartbeats 1000000 in
theorem indexMark_any (A : Option Addr) (cap : Nat) (l : List UInt8) (w : World) (hm : l.length ≤ 1000000) (hA : BytesAt w A l) :
    Calls Tryz.prog 193 #[.slice A l.length cap, .func (.func 189) #[] #[]] w fun e w' => (∃ i : Int, e = .returned (.int .i64 i) ∧ decide (0 ≤ i) = l.any badMark) ∧ w = w' := by
  have HA := hid hA
  clear hA
  go_enter Tryz.func193, Tryz.ntmps193
  go_wp2_with fail
  go_loopg [8] (l.length) (fun g i wr => wr = w ∧ ∃ k : Nat, k ≤ l.length ∧ g = l.length - k ∧ i = .int .i64 k ∧ Hid ((l.take k).any badMark = false))
  case atStart => exact ⟨rfl, 0, by omega, by omega, rfl, hid (by simp)⟩
  case round =>
    obtain ⟨rfl, k, hk, hgk, rfl, hno⟩ := hrel
    by_cases hlt : k < l.length
    · obtain ⟨b, off, rfl, hc⟩ := HA.out (by omega)
      have hck := hc k hlt
      have i0 : (0 : Int) ≤ k := by omega
      have i1 : (k : Int) < l.length := by omega
      have HSN := hid (any_take_snocMark l k hlt)
      obtain ⟨ch, hch⟩ : ∃ ch, l[k] = ch := ⟨_, rfl⟩
      rw [hch] at hck HSN
      have HMEM : Hid (ch ∈ l) := hid (by rw [← hch]; exact List.getElem_mem hlt)
      obtain ⟨n, hn⟩ : ∃ n : Int, n = ch.toNat := ⟨_, rfl⟩
      rw [← hn] at hck
      have HN := hid hn
      clear hc hch hn
      rcases hb : badMark ch with _ | _
      · have HB := hid hb
        clear hb
        go_wp2_with fail
        refine (badMark_any ch wr HN.out).mono ?_
        rintro e w' ⟨rfl, rfl⟩
        rw [HB.out]
        go_wp2_with fail
        go_roundg (l.length - (k + 1))
        case measure => omega
        case rel => exact ⟨rfl, k + 1, by omega, rfl, by go_num, hid (by rw [HSN.out, hno.out, HB.out]; rfl)⟩
      · have HB := hid hb
        clear hb
        go_wp2_with fail
        refine (badMark_any ch wr HN.out).mono ?_
        rintro e w' ⟨rfl, rfl⟩
        rw [HB.out]
        go_wp2_with fail
        go_ret
        refine ⟨⟨_, rfl, ?_⟩, rfl⟩
        rw [List.any_eq_true.2 ⟨ch, HMEM.out, HB.out⟩]
        exact decide_eq_true (by omega)
    · obtain rfl : k = l.length := by omega
      have hno2 := hno.out
      rw [List.take_length] at hno2
      have HNO := hid hno2
      clear hno hno2
      go_wp2_with fail
      go_ret
      exact ⟨⟨_, rfl, by rw [HNO.out]; rfl⟩, rfl⟩
set_option maxHeartbeats 1000000 in
theorem containsMark_any (A : Option Addr) (cap : Nat) (l : List UInt8) (w : World) (hm : l.length ≤ 1000000) (hA : BytesAt w A l) :
    Calls Tryz.prog 188 #[.slice A l.length cap, .func (.func 189) #[] #[]] w fun e w' => e = .returned (.bool (l.any badMark)) ∧ w = w' := by
  have HA := hid hA
  clear hA
  go_enter Tryz.func188, Tryz.ntmps188
  go_wp2_with fail
  refine (indexMark_any A cap l w hm HA.out).mono ?_
  rintro e w' ⟨⟨i, rfl, hi⟩, rfl⟩
  have HI := hid hi
  clear hi
  go_wp2_with fail
  go_ret
  exact ⟨ret_bool HI.out, rfl⟩
theorem any_take_snocName (l : List UInt8) (k : Nat) (h : k < l.length) : (l.take (k + 1)).any badName = ((l.take k).any badName || badName l[k]) := by
  rw [List.take_succ_eq_append_getElem h, List.any_append, List.any_cons, List.any_nil, Bool.or_false]
set_option maxHeartbeats 1000000 in
theorem indexName_any (A : Option Addr) (cap : Nat) (l : List UInt8) (w : World) (hm : l.length ≤ 1000000) (hA : BytesAt w A l) :
    Calls Tryz.prog 193 #[.slice A l.length cap, .func (.func 190) #[] #[]] w fun e w' => (∃ i : Int, e = .returned (.int .i64 i) ∧ decide (0 ≤ i) = l.any badName) ∧ w = w' := by
  have HA := hid hA
  clear hA
  go_enter Tryz.func193, Tryz.ntmps193
  go_wp2_with fail
  go_loopg [8] (l.length) (fun g i wr => wr = w ∧ ∃ k : Nat, k ≤ l.length ∧ g = l.length - k ∧ i = .int .i64 k ∧ Hid ((l.take k).any badName = false))
  case atStart => exact ⟨rfl, 0, by omega, by omega, rfl, hid (by simp)⟩
  case round =>
    obtain ⟨rfl, k, hk, hgk, rfl, hno⟩ := hrel
    by_cases hlt : k < l.length
    · obtain ⟨b, off, rfl, hc⟩ := HA.out (by omega)
      have hck := hc k hlt
      have i0 : (0 : Int) ≤ k := by omega
      have i1 : (k : Int) < l.length := by omega
      have HSN := hid (any_take_snocName l k hlt)
      obtain ⟨ch, hch⟩ : ∃ ch, l[k] = ch := ⟨_, rfl⟩
      rw [hch] at hck HSN
      have HMEM : Hid (ch ∈ l) := hid (by rw [← hch]; exact List.getElem_mem hlt)
      obtain ⟨n, hn⟩ : ∃ n : Int, n = ch.toNat := ⟨_, rfl⟩
      rw [← hn] at hck
      have HN := hid hn
      clear hc hch hn
      rcases hb : badName ch with _ | _
      · have HB := hid hb
        clear hb
        go_wp2_with fail
        refine (badName_any ch wr HN.out).mono ?_
        rintro e w' ⟨rfl, rfl⟩
        rw [HB.out]
        go_wp2_with fail
        go_roundg (l.length - (k + 1))
        case measure => omega
        case rel => exact ⟨rfl, k + 1, by omega, rfl, by go_num, hid (by rw [HSN.out, hno.out, HB.out]; rfl)⟩
      · have HB := hid hb
        clear hb
        go_wp2_with fail
        refine (badName_any ch wr HN.out).mono ?_
        rintro e w' ⟨rfl, rfl⟩
        rw [HB.out]
        go_wp2_with fail
        go_ret
        refine ⟨⟨_, rfl, ?_⟩, rfl⟩
        rw [List.any_eq_true.2 ⟨ch, HMEM.out, HB.out⟩]
        exact decide_eq_true (by omega)
    · obtain rfl : k = l.length := by omega
      have hno2 := hno.out
      rw [List.take_length] at hno2
      have HNO := hid hno2
      clear hno hno2
      go_wp2_with fail
      go_ret
      exact ⟨⟨_, rfl, by rw [HNO.out]; rfl⟩, rfl⟩
set_option maxHeartbeats 1000000 in
theorem containsName_any (A : Option Addr) (cap : Nat) (l : List UInt8) (w : World) (hm : l.length ≤ 1000000) (hA : BytesAt w A l) :
    Calls Tryz.prog 188 #[.slice A l.length cap, .func (.func 190) #[] #[]] w fun e w' => e = .returned (.bool (l.any badName)) ∧ w = w' := by
  have HA := hid hA
  clear hA
  go_enter Tryz.func188, Tryz.ntmps188
  go_wp2_with fail
  refine (indexName_any A cap l w hm HA.out).mono ?_
  rintro e w' ⟨⟨i, rfl, hi⟩, rfl⟩
  have HI := hid hi
  clear hi
  go_wp2_with fail
  go_ret
  exact ⟨ret_bool HI.out, rfl⟩
/-- '[]byte(s)': new memory that holds the bytes. -/
theorem bytes_of (s : ByteArray) (w : World) : ∃ W cap, (convert 9 198 (.string s)).run Tryz.prog w = .ok (.slice (some ⟨w.heap.size, 0, none⟩) s.size cap) W ∧ BytesAt W (some ⟨w.heap.size, 0, none⟩) s.data.toList ∧ Below w.heap.size w W := by
  refine ⟨_, _, run_bytes_of_string w 9 198 5 s Tryz.underlying9 Tryz.underlying198 Tryz.underlying5, fun _ => ⟨w.heap.size, 0, rfl, fun j hj => ?_⟩, ((Below.refl _ _).drew).alloc (Nat.le_refl _) _⟩
  have h1 := World.cell?_alloc_mark w.drew (bytesRow s (grownCap w s.size 0 5)) 5 ((bytesRow s (grownCap w s.size 0 5)).size, (bytesRow s (grownCap w s.size 0 5)).size + 1) j
  have h2 := bytesRow_at s (grownCap w s.size 0 5) j (by simpa using hj)
  rw [Nat.zero_add]
  refine (h1.trans h2).trans ?_
  simp
theorem any_bad (l : List UInt8) (p : UInt8 → Bool) : (l.any fun c => !p c) = !l.all p := by
  rw [Bool.eq_iff_iff]
  simp
set_option maxHeartbeats 2000000 in
theorem isMark_any (s : ByteArray) (w : World) : Calls Tryz.prog 175 #[.string s] w fun e w' => e = .returned (.bool (markB s)) ∧ Below w.heap.size w w' := by
  obtain ⟨W, cap, hcv, hby, hb⟩ := bytes_of s w
  have HBY := hid hby
  have HB := hid hb
  have hsz : s.data.toList.length = s.size := by simp
  have HSZ := hid hsz
  clear hby hb hsz
  rcases h1 : inB (s.size : Int) 1 12 with _ | _
  · have H1 := hid h1
    clear h1
    go_enter Tryz.func175, Tryz.ntmps175
    go_wp2_with fail
    refine (in_t _ _ _ _ H1.out).mono ?_
    rintro e w' ⟨rfl, rfl⟩
    go_wp2_with fail
    go_ret
    refine ⟨ret_bool ?_, Below.refl _ _⟩
    have := H1.out
    simp [inB] at this
    unfold markB
    rw [decide_eq_false (by omega)]
    rfl
  · have hlen : s.size ≤ 12 := by simp [inB] at h1; omega
    have hc := containsMark_any (some ⟨w.heap.size, 0, none⟩) cap s.data.toList W (by rw [HSZ.out]; omega) HBY.out
    rw [HSZ.out] at hc
    obtain ⟨t, ht⟩ : ∃ t, s.data.toList.any badMark = t := ⟨_, rfl⟩
    rw [ht] at hc
    have HC := hid hc
    have H1 := hid h1
    have HT := hid ht
    clear h1 hc ht
    go_enter Tryz.func175, Tryz.ntmps175
    go_wp2_with fail
    refine (in_t _ _ _ _ H1.out).mono ?_
    rintro e w' ⟨rfl, rfl⟩
    go_wp2_with fail
    refine HC.out.mono ?_
    rintro e w' ⟨rfl, rfl⟩
    clear hcv
    go_wp2_with fail
    go_ret
    refine ⟨ret_bool ?_, HB.out⟩
    have := H1.out
    simp [inB] at this
    unfold markB
    rw [decide_eq_true (by omega), Bool.true_and]
    have h2 := any_bad s.data.toList (fun c => isLow c || isDig c || c == 63)
    rw [show (fun c => !(isLow c || isDig c || c == 63)) = badMark from rfl] at h2
    have h3 := HT.out
    rw [h2] at h3
    rw [← h3, Bool.not_not]
theorem first_low (s : ByteArray) (h : 0 < s.size) : (match s.data.toList with | [] => false | c :: _ => isLow c) = (decide ((97 : Int) ≤ s[0].toNat) && decide ((s[0].toNat : Int) ≤ 122)) := by
  have h1 : s.data.toList[0]? = some s[0] := by
    rw [List.getElem?_eq_getElem (by simpa using h)]
    simp
    rfl
  rcases hs : s.data.toList with _ | ⟨c, l⟩
  · rw [hs] at h1
    cases h1
  · rw [hs] at h1
    obtain rfl : c = s[0] := by simpa using h1
    exact low_iff _
theorem nameB_of (s : ByteArray) (h : 0 < s.size) : nameB s = (decide (1 ≤ s.size ∧ s.size ≤ 24) && (decide ((97 : Int) ≤ s[0].toNat) && decide ((s[0].toNat : Int) ≤ 122)) && s.data.toList.all fun c => isLow c || isDig c || c == 45) := by
  rw [← first_low s h]
  rfl
set_option maxRecDepth 8000 in
set_option maxHeartbeats 2000000 in
theorem isName_any (s : ByteArray) (w : World) : Calls Tryz.prog 176 #[.string s] w fun e w' => e = .returned (.bool (nameB s)) ∧ Below w.heap.size w w' := by
  obtain ⟨W, cap, hcv, hby, hb⟩ := bytes_of s w
  have HBY := hid hby
  have HB := hid hb
  have hsz : s.data.toList.length = s.size := by simp
  have HSZ := hid hsz
  clear hby hb hsz
  rcases h1 : inB (s.size : Int) 1 24 with _ | _
  · have H1 := hid h1
    clear h1
    go_enter Tryz.func176, Tryz.ntmps176
    go_wp2_with fail
    refine (in_t _ _ _ _ H1.out).mono ?_
    rintro e w' ⟨rfl, rfl⟩
    go_wp2_with fail
    go_ret
    refine ⟨ret_bool ?_, Below.refl _ _⟩
    have := H1.out
    simp [inB] at this
    unfold nameB
    rw [decide_eq_false (by omega)]
    rfl
  · have hlen : 1 ≤ s.size ∧ s.size ≤ 24 := by simp [inB] at h1; omega
    have hpos : 0 < s.size := by omega
    have hc := containsName_any (some ⟨w.heap.size, 0, none⟩) cap s.data.toList W (by rw [HSZ.out]; omega) HBY.out
    rw [HSZ.out] at hc
    obtain ⟨t, ht⟩ : ∃ t, s.data.toList.any badName = t := ⟨_, rfl⟩
    rw [ht] at hc
    have HC := hid hc
    have H1 := hid h1
    have HT := hid ht
    have HF := hid (nameB_of s hpos)
    obtain ⟨ch, hch⟩ : ∃ ch : Nat, s[0].toNat = ch := ⟨_, rfl⟩
    rw [hch] at HF
    clear h1 hc ht
    by_cases hlo : (ch : Int) < 97
    · go_enter Tryz.func176, Tryz.ntmps176
      go_wp2_with fail
      refine (in_t _ _ _ _ H1.out).mono ?_
      rintro e w' ⟨rfl, rfl⟩
      go_wp2_with fail
      go_ret
      refine ⟨ret_bool ?_, Below.refl _ _⟩
      rw [HF.out, decide_eq_false (by omega : ¬ (97 : Int) ≤ ch)]
      rw [Bool.false_and, Bool.and_false, Bool.false_and]
    · by_cases hhi : (122 : Int) < ch
      · go_enter Tryz.func176, Tryz.ntmps176
        go_wp2_with fail
        refine (in_t _ _ _ _ H1.out).mono ?_
        rintro e w' ⟨rfl, rfl⟩
        go_wp2_with fail
        go_ret
        refine ⟨ret_bool ?_, Below.refl _ _⟩
        rw [HF.out, decide_eq_false (by omega : ¬ (ch : Int) ≤ 122)]
        rw [Bool.and_false, Bool.and_false, Bool.false_and]
      · go_enter Tryz.func176, Tryz.ntmps176
        go_wp2_with fail
        refine (in_t _ _ _ _ H1.out).mono ?_
        rintro e w' ⟨rfl, rfl⟩
        go_wp2_with fail
        refine HC.out.mono ?_
        rintro e w' ⟨rfl, rfl⟩
        clear hcv
        go_wp2_with fail
        go_ret
        refine ⟨ret_bool ?_, HB.out⟩
        rw [HF.out, decide_eq_true (by omega : (97 : Int) ≤ ch), decide_eq_true (by omega : (ch : Int) ≤ 122), decide_eq_true (by omega), Bool.true_and, Bool.true_and, Bool.true_and]
        have h2 := any_bad s.data.toList (fun c => isLow c || isDig c || c == 45)
        rw [show (fun c => !(isLow c || isDig c || c == 45)) = badName from rfl] at h2
        have h3 := HT.out
        rw [h2] at h3
        rw [← h3, Bool.not_not]
end Go.Proofs.YtfaoillnakhejaaGreat
