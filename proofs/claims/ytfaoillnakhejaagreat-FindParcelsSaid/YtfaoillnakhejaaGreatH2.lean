/- slices.DeleteFunc of numbers: what a function says yes to leaves a row of the call's own; reached: all parcels that are reached from one. -/
import Derived.Test.YtfaoillnakhejaaGreatG13
import Derived.Laws.EntriesVeiled
import Derived.Lib.SliceRun
import Derived.Test.YtfaoillnakhejaaGreatG14
namespace Go.Proofs.YtfaoillnakhejaaGreat
set_option maxRecDepth 100000
open Go.RowKit
/-- A row of a call's own that it may write: block g holds the list xs from its head on. -/
def RowAt (w : World) (g : Nat) (xs : List Int) : Prop := ∀ j (h : j < xs.length), w.cell? ⟨g, j, none⟩ = some (.int .i64 xs[j]) ∧ w.frozen? ⟨g, j, none⟩ = false
theorem RowAt.below {w w' : World} {g : Nat} {xs : List Int} (h : RowAt w g xs) (hb : Below w.heap.size w w') : RowAt w' g xs := fun j hj => by
 have hlt : g < w.heap.size := cell_lt (h j hj).1
 exact ⟨(hb.cell (p := ⟨g, j, none⟩) hlt).trans (h j hj).1, (hb.frozen (p := ⟨g, j, none⟩) hlt).trans (h j hj).2⟩
theorem RowAt.set {w : World} {g : Nat} {xs : List Int} (h : RowAt w g xs) (i : Nat) (v : Int) : RowAt (w.setCell ⟨g, i, none⟩ (.int .i64 v)) g (xs.set i v) := fun j hj => by
 simp only [List.length_set] at hj
 refine ⟨?_, by rw [World.frozen?_setCell]; exact (h j hj).2⟩
 by_cases e : i = j
 ·subst e
  rw [World.cell?_setCell_same _ _ _ (h i hj).1]
  simp
 ·rw [World.cell?_setCell_other _ _ _ _ (fun k => e (Addr.mk.inj k).2.1), (h j hj).1]
  simp [e]
theorem RowAt.intsAt {w : World} {g : Nat} {xs : List Int} (h : RowAt w g xs) : IntsAt w (some ⟨g, 0, none⟩) xs := fun _ => ⟨g, 0, rfl, fun j hj => by simpa using (h j hj).1⟩
theorem RowAt.of_own {w : World} {base g n cap : Nat} {xs : List Int} (h : w.ownsRow base 3 1 (.slice (some ⟨g, 0, none⟩) n cap) xs.length (ints xs)) : RowAt w g xs := fun j hj => by
 rcases h.2 with ⟨h1, _⟩ | ⟨g', cap, cur, h1, _, hg, _, _, hs, ht⟩
 ·cases h1
 ·cases h1
  refine ⟨?_, by simp [World.frozen?, hg]⟩
  have := h.cells (g := g) rfl j (.int .i64 xs[j]) (by simp [ints, hj])
  rwa [add_lit, Nat.zero_add] at this
def AsksG (w : World) (g : Nat) (fid : FuncId) (cv : Value) (xs : List Int) (q : Int → Bool) : Prop :=
 ∀ x wr, x ∈ xs → w.grownBy wr (some g) → Calls Tryz.prog fid #[.int .i64 x, cv] wr fun e w' => e = .returned (.bool (q x)) ∧ Below wr.heap.size wr w'
theorem grown_some {w w' : World} {r : Nat} (h : Below w.heap.size w w') : w.grownBy w' (some r) := ⟨h.os, h.tape, h.output, h.size, fun k hk _ => h.block k hk⟩
theorem grown_set (w : World) (cb o : Nat) (u : Value) : w.grownBy (w.setCell ⟨cb, o, none⟩ u) (some cb) :=
 ⟨rfl, rfl, rfl, by simp, fun k _ hk => by
  simp only [World.setCell, Array.getElem?_modify]
  rw [if_neg (fun e => hk (by rw [e]))]⟩
theorem grown_cells (w : World) (cb : Nat) : ∀ (vs : List Value) (o : Nat), w.grownBy (w.setCells cb o vs) (some cb) := fun vs => by
 induction vs generalizing w with
 | nil => exact fun o => grown_some (Below.refl _ _)
 | cons v vs ih => exact fun o => (grown_set w cb o v).trans (ih _ (o + 1))
def FirstI (xs : List Int) (q : Int → Bool) (i : Int) : Prop := (i = -1 ∧ ∀ x ∈ xs, q x = false) ∨ ∃ k : Nat, ∃ h : k < xs.length, i = k ∧ q xs[k] = true ∧ ∀ x ∈ xs.take k, q x = false
set_option maxHeartbeats 4000000 in
theorem indexIntsX_any (fid : FuncId) (hcf : Enters fid) (cv : Value) (q : Int → Bool) (A : Option Addr) (cap : Nat) (xs : List Int) (w : World) (hm : xs.length ≤ 1000000) (hA : IntsAt w A xs) (hF : Asks w fid cv xs q) :
  Calls Tryz.prog 93 #[.slice A xs.length cap, .func (.func fid) #[] #[cv]] w fun e w' => (∃ i : Int, e = .returned (.int .i64 i) ∧ FirstI xs q i) ∧ Below w.heap.size w w' := by
 have HA := hid hA
 have HF := hid hF
 clear hA hF
 unfold Enters at hcf
 go_enter Tryz.func93, Tryz.ntmps93
 go_wp2_with fail
 go_loopg [8] (xs.length) (fun g i wr => ∃ k : Nat, k ≤ xs.length ∧ g = xs.length - k ∧ i = .int .i64 k ∧ Hid (∀ x ∈ xs.take k, q x = false) ∧ Hid (Below w.heap.size w wr))
 case atStart => exact ⟨0, by omega, by omega, rfl, hid (by simp), hid (Below.refl _ _)⟩
 case round =>
  obtain ⟨k, hk, hgk, rfl, hno, hbw⟩ := hrel
  by_cases hlt : k < xs.length
  ·obtain ⟨b, off, hAe, hc⟩ := (HA.out.kept (Kept.of_below hbw.out)) (by omega)
   subst hAe
   have hck := hc k hlt
   have i0 : (0 : Int) ≤ k := by omega
   have i1 : (k : Int) < xs.length := by omega
   have hsn : xs.take (k + 1) = xs.take k ++ [xs[k]] := List.take_succ_eq_append_getElem hlt
   have hmem := List.getElem_mem hlt
   obtain ⟨x, hx⟩ : ∃ x, xs[k] = x := ⟨_, rfl⟩
   rw [hx] at hck hsn hmem
   have HX := hid hx
   have HSN := hid hsn
   have HMEM := hid hmem
   clear hc hx hsn hmem
   rcases hb : q x with _ | _
   ·have hcl := HF.out x wr HMEM.out hbw.out
    rw [hb] at hcl
    have HCL := hid hcl
    have HB := hid hb
    clear hb hcl
    go_wp2_with fail
    refine HCL.out.mono ?_
    rintro e w' ⟨rfl, hb'⟩
    have HB' := hid (hbw.out.trans (hb'.mono hbw.out.size))
    clear hb'
    go_wp2_with fail
    go_roundg (xs.length - (k + 1))
    case measure => omega
    case rel => exact ⟨k + 1, by omega, rfl, by go_num, hid (by
     rw [HSN.out]
     intro y hy
     rcases List.mem_append.1 hy with h | h
     ·exact hno.out y h
     ·rw [List.mem_singleton] at h
      subst h
      exact HB.out), HB'⟩
   ·have hcl := HF.out x wr HMEM.out hbw.out
    rw [hb] at hcl
    have HCL := hid hcl
    have HB := hid hb
    clear hb hcl
    go_wp2_with fail
    refine HCL.out.mono ?_
    rintro e w' ⟨rfl, hb'⟩
    have HB' := hid (hbw.out.trans (hb'.mono hbw.out.size))
    clear hb'
    go_wp2_with fail
    go_ret
    exact ⟨⟨_, rfl, .inr ⟨k, hlt, rfl, by rw [HX.out]; exact HB.out, hno.out⟩⟩, HB'.out⟩
  ·obtain rfl : k = xs.length := by omega
   have hno2 := hno.out
   rw [List.take_length] at hno2
   have HN := hid hno2
   clear hno2 hno
   go_wp2_with fail
   go_ret
   exact ⟨⟨_, rfl, .inl ⟨rfl, HN.out⟩⟩, hbw.out⟩
def dropQ (q : Int → Bool) (xs : List Int) : List Int := xs.filter (fun x => !q x)
/-- What stands in the row when j numbers have been looked at: i have stayed. -/
structure Swept (q : Int → Bool) (xs zs : List Int) (i j : Nat) : Prop where
 len : zs.length = xs.length
 i_lt : i < j
 head : zs.take i = dropQ q (xs.take j)
 tail : ∀ k, j ≤ k → zs[k]? = xs[k]?
theorem drop_len (q : Int → Bool) (xs : List Int) : (dropQ q xs).length ≤ xs.length := List.length_filter_le _ _
theorem drop_same {q : Int → Bool} {xs : List Int} (h : ∀ x ∈ xs, q x = false) : dropQ q xs = xs := by
 unfold dropQ
 rw [List.filter_eq_self]
 intro x hx
 simp [h x hx]
theorem drop_snoc {q : Int → Bool} {xs : List Int} {j : Nat} (h : j < xs.length) : dropQ q (xs.take (j + 1)) = dropQ q (xs.take j) ++ (if q xs[j] then [] else [xs[j]]) := by
 unfold dropQ
 rw [List.take_succ_eq_append_getElem h, List.filter_append]
 congr 1
 cases e : q xs[j] <;> simp_all
theorem Swept.start {q : Int → Bool} {xs : List Int} {i : Nat} (h : i < xs.length) (he : q xs[i] = true) (hn : ∀ x ∈ xs.take i, q x = false) : Swept q xs xs i (i + 1) :=
 ⟨rfl, by omega, by rw [drop_snoc h, if_pos he, List.append_nil, drop_same hn], fun _ _ => rfl⟩
theorem Swept.skip {q : Int → Bool} {xs zs : List Int} {i j : Nat} (h : Swept q xs zs i j) (hj : j < xs.length) (he : q xs[j] = true) : Swept q xs zs i (j + 1) :=
 ⟨h.len, by have := h.i_lt; omega, by rw [drop_snoc hj, if_pos he, List.append_nil, h.head], fun k hk => h.tail k (by omega)⟩
theorem Swept.keep {q : Int → Bool} {xs zs : List Int} {i j : Nat} (h : Swept q xs zs i j) (hj : j < xs.length) (he : q xs[j] = false) : Swept q xs (zs.set i xs[j]) (i + 1) (j + 1) := by
 have hi := h.i_lt
 have hl := h.len
 refine ⟨by rw [List.length_set, hl], by omega, ?_, fun k hk => ?_⟩
 ·rw [drop_snoc hj, if_neg (by simp [he]), ← h.head]
  apply List.ext_getElem
  ·simp; omega
  ·intro n h1 h2
   simp only [List.length_take, List.length_set] at h1
   by_cases e : n = i
   ·subst e
    rw [List.getElem_take, List.getElem_set_self, List.getElem_append_right (by simp; omega)]
    simp
   ·rw [List.getElem_take, List.getElem_set_ne (by omega), List.getElem_append_left (by simp; omega), List.getElem_take]
 ·rw [List.getElem?_set_ne (by omega)]
  exact h.tail k (by omega)
theorem own_size {w : World} {base n g cap : Nat} {e : TypeId} {xs : List Value} (h : w.ownsRow base e 1 (.slice (some ⟨g, 0, none⟩) n cap) n xs) : ∃ cur, w.heap[g]? = some (.cells cur e (0, 0)) ∧ cur.size = cap := by
 rcases h.2 with ⟨h2, _⟩ | ⟨g', cap', cur, h1, _, h2, _, _, h5, _⟩
 ·cases h2
 ·cases h1
  exact ⟨cur, h2, by simpa using h5⟩
theorem size_set {w : World} {g i cap : Nat} {t : TypeId} {v : Value} (h : ∃ cur, w.heap[g]? = some (.cells cur t (0, 0)) ∧ cur.size = cap) : ∃ cur, (w.setCell ⟨g, i, none⟩ v).heap[g]? = some (.cells cur t (0, 0)) ∧ cur.size = cap := by
 obtain ⟨cur, h1, h2⟩ := h
 exact ⟨_, set_block h1, by simpa using h2⟩
theorem size_cells {g cap : Nat} {t : TypeId} : ∀ (vs : List Value) (o : Nat) {w : World}, (∃ cur, w.heap[g]? = some (.cells cur t (0, 0)) ∧ cur.size = cap) → ∃ cur, (w.setCells g o vs).heap[g]? = some (.cells cur t (0, 0)) ∧ cur.size = cap
 | [], _, _, h => h
 | _ :: r, o, _, h => size_cells r (o + 1) (size_set h)
/-- A row of the call's own, by its cells. -/
theorem own_of_row {w0 w : World} {base g n cap : Nat} {xs : List Value} {ys : List Int} {cur : Array Value} (h : w0.ownsRow base 3 1 (.slice (some ⟨g, 0, none⟩) n cap) n xs) (hc : w.heap[g]? = some (.cells cur 3 (0, 0))) (hs : cur.size = cap) (hn : ys.length ≤ cap)
  (hr : RowAt w g ys) : w.ownsRow base 3 1 (.slice (some ⟨g, 0, none⟩) ys.length cap) ys.length (ints ys) := by
 rcases h.2 with ⟨h2, _⟩ | ⟨g', cap', cur', h1, hb, _, _, h4, _⟩
 ·cases h2
 ·cases h1
  refine ⟨by simp [ints], .inr ⟨g, cap, cur, rfl, hb, hc, hn, h4, by simpa using hs, ?_⟩⟩
  apply List.ext_getElem
  ·simp [ints]; omega
  ·intro j j1 j2
   simp only [ints, List.length_map] at j2
   have hcell := (hr j j2).1
   simp only [World.cell?, hc] at hcell
   rw [List.getElem_take]
   simp only [ints, List.getElem_map]
   have hj : j < cur.size := by omega
   simpa [hj] using hcell
theorem size_grown {w w' : World} {g cap : Nat} {t : TypeId} (h : ∃ cur, w.heap[g]? = some (.cells cur t (0, 0)) ∧ cur.size = cap) (hb : Below w.heap.size w w') : ∃ cur, w'.heap[g]? = some (.cells cur t (0, 0)) ∧ cur.size = cap := by
 obtain ⟨cur, h1, h2⟩ := h
 exact ⟨cur, (hb.block g (Array.getElem?_eq_some_iff.1 h1).1).trans h1, h2⟩
theorem int_zeroV (w : World) : (zeroValue 3).run Tryz.prog w = .ok (.int .i64 0) w := by kernel_rfl
set_option maxHeartbeats 4000000 in
theorem deleted_any (fid : FuncId) (hcf : Enters fid) (cv : Value) (q : Int → Bool) (g cap : Nat) (xs : List Int) (w : World) (hm : xs.length ≤ 1000000) (hc : xs.length ≤ cap) (n₀ : Nat) (hO : w.ownsRow n₀ 3 1 (.slice (some ⟨g, 0, none⟩) xs.length cap) xs.length (ints xs)) (hF : AsksG w g fid cv xs q) :
  Calls Tryz.prog 49 #[.slice (some ⟨g, 0, none⟩) xs.length cap, .func (.func fid) #[] #[cv]] w fun e w' =>
   e = .returned (.slice (some ⟨g, 0, none⟩) (dropQ q xs).length cap) ∧ w'.ownsRow n₀ 3 1 (.slice (some ⟨g, 0, none⟩) (dropQ q xs).length cap) (dropQ q xs).length (ints (dropQ q xs)) ∧ w.grownBy w' (some g) := by
 have hA : RowAt w g xs := RowAt.of_own hO
 have HO := hid hO
 have HBK : Hid (∃ cur, w.heap[g]? = some (.cells cur 3 (0, 0)) ∧ cur.size = cap) := hid (own_size hO)
 have HA := hid hA
 have HI := hid (indexIntsX_any fid hcf cv q (some ⟨g, 0, none⟩) cap xs w hm hA.intsAt (fun x wr hx hb => hF x wr hx (grown_some hb)))
 have HF := hid hF
 unfold Enters at hcf
 clear hA hO hF
 go_enter Tryz.func49, Tryz.ntmps49
 go_wp2_with fail
 refine HI.out.mono ?_
 rintro e w1 ⟨⟨i, rfl, hi⟩, hb1⟩
 have HA1 := hid (HA.out.below hb1)
 have HO1 := hid (own_below HO.out hb1)
 have HBK1 := hid (size_grown HBK.out hb1)
 have HG1 := hid (grown_some (r := g) hb1)
 clear hb1 HA HO HBK HI
 rcases hi with ⟨rfl, hno⟩ | ⟨i0, hi0, rfl, he, hn⟩
 ·have HD := hid (drop_same hno)
  clear hno
  go_wp2_with fail
  go_ret
  rw [HD.out]
  exact ⟨rfl, HO1.out, HG1.out⟩
 have z0 := hid (show i0 + 1 ≤ xs.length by omega)
 have d1 : ((i0 : Int) == -1) = false := beq_eq_false_iff_ne.2 (by omega)
 have SW := hid (Swept.start hi0 he hn)
 clear hn he
 go_wp2_with fail
 go_loopg [5, 6, 7] (xs.length - (i0 + 1)) (fun g' i j v wr => ∃ (a c : Nat) (zs : List Int), c ≤ xs.length ∧ g' = xs.length - c ∧ i = .int .i64 a ∧ j = .int .i64 c ∧ Hid (Swept q xs zs a c) ∧ Hid (RowAt wr g zs) ∧ Hid (∃ cur, wr.heap[g]? = some (.cells cur 3 (0, 0)) ∧ cur.size = cap) ∧ Hid (w.grownBy wr (some g)))
 case atStart => exact ⟨i0, i0 + 1, xs, z0.out, by omega, rfl, by go_num, SW, HA1, HBK1, HG1⟩
 case round =>
  obtain ⟨a, c, zs, hc1, hgk, rfl, rfl, hsw, hrow, hbk, ho⟩ := hrel
  have l1 := hsw.out.i_lt
  have l2 := hsw.out.len
  have HL2 := hid l2
  by_cases hlt : c < xs.length
  ·have hz : c < zs.length := by omega
   have hcell := (hrow.out c hz).1
   have ha : a < zs.length := by omega
   have hzx : Hid (zs[c] = xs[c]) := hid (by have := hsw.out.tail c (Nat.le_refl _); rw [List.getElem?_eq_getElem hz, List.getElem?_eq_getElem hlt] at this; exact Option.some.inj this)
   have i0' : (0 : Int) ≤ c := by omega
   have i1 : (c : Int) < xs.length := by omega
   have i2 : (0 : Int) ≤ a := by omega
   have i3 : (a : Int) < xs.length := by omega
   have hmem := List.getElem_mem hlt
   have hkp := fun h => hsw.out.keep hlt h
   have hsp := fun h => hsw.out.skip hlt h
   rw [hzx.out] at hcell
   obtain ⟨x, hx⟩ : ∃ x, xs[c] = x := ⟨_, rfl⟩
   rw [hx] at hcell hmem hkp hsp
   have hcl := HF.out x wr hmem ho.out
   rcases hq : q x with _ | _
   ·rw [hq] at hcl
    have HCL := hid hcl
    have HSW := hid (hkp hq)
    have HAL := hid ha
    clear l2 hq hcl hx hmem hkp hsp hzx hz ha
    go_wp2_with fail
    refine HCL.out.mono ?_
    rintro e w' ⟨rfl, hb'⟩
    have HR' := hid (hrow.out.below hb')
    have hcell2 := (HR'.out a HAL.out).1
    have hfr2 := (HR'.out a HAL.out).2
    have HBK' := hid (size_grown hbk.out hb')
    have HG' := hid (ho.out.trans (grown_some hb'))
    clear hb'
    go_wp2_with fail
    go_roundg (xs.length - (c + 1))
    case measure => omega
    case rel => exact ⟨a + 1, c + 1, _, by omega, rfl, by go_num, by go_num, HSW, hid (HR'.out.set a x), hid (size_set HBK'.out), hid (HG'.out.trans (grown_set _ _ _ _))⟩
   ·rw [hq] at hcl
    have HCL := hid hcl
    have HSW := hid (hsp hq)
    clear l2 hq hcl hx hmem hkp hsp hzx hz ha
    go_wp2_with fail
    refine HCL.out.mono ?_
    rintro e w' ⟨rfl, hb'⟩
    have HR' := hid (hrow.out.below hb')
    have HBK' := hid (size_grown hbk.out hb')
    have HG' := hid (ho.out.trans (grown_some hb'))
    clear hb'
    go_wp2_with fail
    go_roundg (xs.length - (c + 1))
    case measure => omega
    case rel => exact ⟨a, c + 1, zs, by omega, rfl, by go_num, by go_num, HSW, HR', HBK', HG'⟩
  ·obtain rfl : c = xs.length := by omega
   have hcl : ∀ ty, (Builtin.clear_ #[25] ty #[.slice (some ⟨g, a, none⟩) (xs.length - a) (cap - a)]).run Tryz.prog wr = .ok (.tuple #[]) (wr.setCells g a (List.replicate (xs.length - a) (.int .i64 0))) :=
    fun ty => Go.Lib.run_clear_slice wr _ _ ty _ intsl_u int_zeroV rfl rfl g a _ _ (by omega) (fun t ht => by rw [(hrow.out (a + t) (by omega)).1]; rfl) (fun t ht => (hrow.out (a + t) (by omega)).2)
   have hne : ¬ cap = a := by omega
   have z1 : (a : Int) ≤ xs.length := by omega
   have z2 : (a : Int) ≤ cap := by omega
   clear hlt hgk l2
   go_wp2
   go_ret
   have hl3 := HL2.out
   have hle : (dropQ q xs).length = a := by
    have h := congrArg List.length hsw.out.head
    rw [List.take_length, List.length_take] at h
    omega
   have hd : dropQ q xs = zs.take a := by rw [hsw.out.head, List.take_length]
   have hr : RowAt (wr.setCells g a (List.replicate (xs.length - a) (.int .i64 0))) g (dropQ q xs) := fun j hj => by
    rw [hle] at hj
    refine ⟨?_, by rw [World.frozen?_setCells]; exact (hrow.out j (by omega)).2⟩
    rw [World.cell?_setCells_out _ _ _ _ _ (fun _ _ => .inl hj), (hrow.out j (by omega)).1]
    simp only [hd, List.getElem_take]
   obtain ⟨cur, hcur, hsz⟩ := size_cells (List.replicate (xs.length - a) (.int .i64 0)) a hbk.out
   exact ⟨by rw [hle]; rfl, own_of_row HO1.out hcur hsz (by rw [hle]; omega) hr, ho.out.trans (grown_cells _ _ _ _)⟩
/-- q is reached from p. -/
inductive Reach (nx : Int → List Int) : Int → Int → Prop
 | refl (p : Int) : Reach nx p p
 | step {p x q : Int} (hx : x ∈ nx p) (h : Reach nx x q) : Reach nx p q
/-- What a search from some numbers makes of a set. -/
structure Dfs (nx : Int → List Int) (S S' : Int → Bool) (ps : List Int) : Prop where
 keep : ∀ q, S q = true → S' q = true
 has : ∀ p ∈ ps, S' p = true
 only : ∀ q, S' q = true → S q = true ∨ ∃ p ∈ ps, Reach nx p q
 shut : ∀ q, S' q = true → S q = false → ∀ x ∈ nx q, S' x = true
def withP (S : Int → Bool) (p : Int) (q : Int) : Bool := if q = p then true else S q
def setF (S : Int → Bool) (p : Int) : Option Bool := if S p then some true else none
theorem setF_none : setF (fun _ => false) = fun _ => none := rfl
theorem setF_with (S : Int → Bool) (p : Int) : setF (withP S p) = fun q => if q = p then some true else setF S q := by
 funext q
 unfold setF withP
 by_cases h : q = p
 ·rw [if_pos h, if_pos h]; rfl
 ·rw [if_neg h, if_neg h]
theorem setF_orZ (S : Int → Bool) (p : Int) : orZ (.bool false) Value.bool (setF S p) = .bool (S p) := by
 unfold setF
 rcases S p <;> rfl
theorem Dfs.start (nx : Int → List Int) (S : Int → Bool) : Dfs nx S S [] := ⟨fun _ h => h, by simp, fun q h => .inl h, fun q h h' => by rw [h] at h'; cases h'⟩
theorem Dfs.there {nx : Int → List Int} {S : Int → Bool} {p : Int} (h : S p = true) : Dfs nx S S [p] := ⟨fun _ h => h, by simpa using h, fun q h => .inl h, fun q h h' => by rw [h] at h'; cases h'⟩
theorem Dfs.snoc {nx : Int → List Int} {S S1 S2 : Int → Bool} {ps : List Int} {x : Int} (h : Dfs nx S S1 ps) (k : Dfs nx S1 S2 [x]) : Dfs nx S S2 (ps ++ [x]) := by
 refine ⟨fun q hq => k.keep q (h.keep q hq), fun p hp => ?_, fun q hq => ?_, fun q hq hn y hy => ?_⟩
 ·rcases List.mem_append.1 hp with hp | hp
  ·exact k.keep p (h.has p hp)
  ·exact k.has p hp
 ·rcases k.only q hq with h1 | ⟨p, hp, h1⟩
  ·rcases h.only q h1 with h2 | ⟨p, hp, h2⟩
   ·exact .inl h2
   ·exact .inr ⟨p, by simp [hp], h2⟩
  ·exact .inr ⟨p, List.mem_append.2 (.inr hp), h1⟩
 ·rcases h1 : S1 q with _ | _
  ·exact k.shut q hq h1 y hy
  ·exact k.keep y (h.shut q h1 hn y hy)
theorem Dfs.up {nx : Int → List Int} {S S' : Int → Bool} {p : Int} (h : Dfs nx (withP S p) S' (nx p)) : Dfs nx S S' [p] := by
 have hp : S' p = true := h.keep p (by simp [withP])
 refine ⟨fun q hq => h.keep q (by
  unfold withP
  split
  ·rfl
  ·exact hq), by simpa using hp, fun q hq => ?_, fun q hq hn x hx => ?_⟩
 ·rcases h.only q hq with h1 | ⟨x, hx, h1⟩
  ·unfold withP at h1
   split at h1
   ·rename_i e
    subst e
    exact .inr ⟨q, by simp, .refl q⟩
   ·exact .inl h1
  ·exact .inr ⟨p, by simp, .step hx h1⟩
 ·by_cases e : q = p
  ·subst e
   exact h.has x hx
  ·exact h.shut q hq (by unfold withP; rw [if_neg e]; exact hn) x hx
theorem reach_shut {nx : Int → List Int} {S' : Int → Bool} (hsh : ∀ q, S' q = true → ∀ x ∈ nx q, S' x = true) {a q : Int} (h : Reach nx a q) : S' a = true → S' q = true := by
 induction h with
 | refl => exact id
 | step hx _ ih => exact fun ha => ih (hsh _ ha _ hx)
/-- From nothing on, the search has what is reached. -/
theorem Dfs.reach {nx : Int → List Int} {S' : Int → Bool} {p : Int} (h : Dfs nx (fun _ => false) S' [p]) (q : Int) : S' q = true ↔ Reach nx p q := by
 constructor
 ·intro hq
  rcases h.only q hq with h1 | ⟨x, hx, h1⟩
  ·cases h1
  ·rw [List.mem_singleton] at hx
   subst hx
   exact h1
 ·intro hr
  exact reach_shut (fun q hq x hx => h.shut q hq rfl x hx) hr (h.has p (by simp))
theorem cell_grown {w w' : World} {r : Nat} (h : w.grownBy w' (some r)) {a : Addr} {v : Value} (hv : w.cell? a = some v) (hr : a.block ≠ r) : w'.cell? a = some v :=
 (World.cell?_of_block (h.block a.block (cell_lt hv) (fun e => hr (by cases e; rfl)))).trans hv
theorem MapOf.not_cell {w : World} {r : Nat} {β : Type} {ev : β → Value} {f : Int → Option β} (h : MapOf w r ev f) {b : Nat} {o : Nat} {v : Value} (hv : w.cell? ⟨b, o, none⟩ = some v) : b ≠ r := by
 rintro rfl
 obtain ⟨m, ⟨es, c, h1, _⟩, _⟩ := h
 simp [World.cell?, h1] at hv
theorem IntsAt.grown {w w' : World} {r : Nat} {A : Option Addr} {xs : List Int} {β : Type} {ev : β → Value} {f : Int → Option β} (h : IntsAt w A xs) (hm : MapOf w r ev f) (hg : w.grownBy w' (some r)) : IntsAt w' A xs := fun h0 => by
 obtain ⟨b, off, e, hc⟩ := h h0
 exact ⟨b, off, e, fun j hj => cell_grown hg (hc j hj) (hm.not_cell (hc j hj))⟩
/-- The three boxes of the search. -/
structure Boxes (w : World) (r B1 B2 B3 : Nat) (F : Value) : Prop where
 seen : w.cell? ⟨B1, 0, none⟩ = some (.map (some r))
 next : w.cell? ⟨B2, 0, none⟩ = some F
 walk : w.cell? ⟨B3, 0, none⟩ = some (.func (.func 91) #[] #[.pointer (some ⟨B1, 0, none⟩), .pointer (some ⟨B2, 0, none⟩), .pointer (some ⟨B3, 0, none⟩)])
 n1 : B1 ≠ r
 n2 : B2 ≠ r
 n3 : B3 ≠ r
theorem Boxes.grown {w w' : World} {r B1 B2 B3 : Nat} {F : Value} (h : Boxes w r B1 B2 B3 F) (hg : w.grownBy w' (some r)) : Boxes w' r B1 B2 B3 F :=
 ⟨cell_grown hg h.seen h.n1, cell_grown hg h.next h.n2, cell_grown hg h.walk h.n3, h.n1, h.n2, h.n3⟩
/-- What a walk from p leaves. -/
def WalkPost (nx : Int → List Int) (r : Nat) (S : Int → Bool) (p : Int) (w : World) (e : Ending) (w' : World) : Prop :=
 (∃ v, e = .returned v) ∧ w.grownBy w' (some r) ∧ ∃ S', MapOf w' r Value.bool (setF S') ∧ Dfs nx S S' [p]
set_option maxHeartbeats 8000000 in
theorem reached1_any (nx : Int → List Int) (rank : Int → Nat) (hrank : ∀ p, ∀ q ∈ nx p, rank q < rank p) (hlen : ∀ p, (nx p).length ≤ 1000) (w0 : World) (r B1 B2 B3 : Nat) (fid : FuncId) (hcf : Enters fid) (bv : Value)
  (hN : ∀ p wr, w0.grownBy wr (some r) → Calls Tryz.prog fid #[bv, .int .i64 p] wr (IntsPost (nx p) wr)) : ∀ (n : Nat) (p : Int) (w : World) (S : Int → Bool), rank p < n → w0.grownBy w (some r) → Boxes w r B1 B2 B3 (.func (.func fid) #[bv] #[]) → MapOf w r Value.bool (setF S) →
   Calls Tryz.prog 91 #[.int .i64 p, .pointer (some ⟨B1, 0, none⟩), .pointer (some ⟨B2, 0, none⟩), .pointer (some ⟨B3, 0, none⟩)] w (WalkPost nx r S p w)
 | 0, p, w, S, h, _, _, _ => by omega
 | n + 1, p, w, S, h, hg0, hb, hm => by
  have IH := reached1_any nx rank hrank hlen w0 r B1 B2 B3 fid hcf bv hN n
  have HIH := hid IH
  have hlk := hm.look mapB_u (.bool false) (bool_zeroV _) p
  rw [setF_orZ] at hlk
  have b1 := hb.seen
  have HB := hid hb
  have HG0 := hid hg0
  have HN := hid hN
  have hlp := hlen p
  have hrk : ∀ q ∈ nx p, rank q < n := fun q hq => by have := hrank p q hq; omega
  have HRK := hid hrk
  rcases hs : S p with _ | _
  ·rw [hs] at hlk
   obtain ⟨w1, hrn, hm1, hg1⟩ := hm.put mapB_u p true
   rw [← setF_with] at hm1
   have HM1 := hid hm1
   have HG1 := hid hg1
   have HB1 := hid (hb.grown hg1)
   have b1' := HB1.out.seen
   have b2' := HB1.out.next
   have HN1 := hid (hN p w1 (hg0.trans hg1))
   unfold Enters at hcf
   clear IH hb hg0 hN hm hm1 hg1 hrk hrank hlen hs
   go_enter Tryz.func91, Tryz.ntmps91
   go_wp2_with fail
   refine HN1.out.mono ?_
   rintro e w2 ⟨hb2, A2, k2, rfl, hI2⟩
   have HM2 := hid (HM1.out.below hb2)
   have HI2 := hid hI2
   have HG2 := hid (HG1.out.trans (grown_some hb2))
   have HB2 := hid (HB1.out.grown (grown_some hb2))
   have HD2 := hid (Dfs.start nx (withP S p))
   clear hb2 hI2 HM1 HG1 HB1 HN1
   obtain ⟨xs, hxs⟩ : ∃ xs, nx p = xs := ⟨_, rfl⟩
   rw [hxs] at hlp HI2 HRK ⊢
   have HXS := hid hxs
   clear hxs hlk hrn
   go_wp2_with fail
   go_loopg [16] (xs.length) (fun g i wr => ∃ k : Nat, k ≤ xs.length ∧ g = xs.length - k ∧ i = .int .i64 k ∧ Hid (∃ Sk, MapOf wr r Value.bool (setF Sk) ∧ Dfs nx (withP S p) Sk (xs.take k)) ∧ Hid (w2.grownBy wr (some r)))
   case atStart => exact ⟨0, by omega, by omega, rfl, hid ⟨_, HM2.out, HD2.out⟩, hid (grown_some (Below.refl _ _))⟩
   case round =>
    obtain ⟨k, hk, hgk, rfl, hsk, hgw⟩ := hrel
    by_cases hkl : k < xs.length
    ·obtain ⟨b, off, hAe, hc⟩ := (HI2.out.grown HM2.out hgw.out) (by omega)
     subst hAe
     have hck := hc k hkl
     have i0 : (0 : Int) ≤ k := by omega
     have i1 : (k : Int) < xs.length := by omega
     have hsn : xs.take (k + 1) = xs.take k ++ [xs[k]] := List.take_succ_eq_append_getElem hkl
     have hrq := HRK.out _ (List.getElem_mem hkl)
     obtain ⟨q, hq⟩ : ∃ q, xs[k] = q := ⟨_, rfl⟩
     rw [hq] at hck hsn hrq
     obtain ⟨Sk, hmk, hdk⟩ := hsk.out
     have hbk := HB2.out.grown hgw.out
     have b3' := hbk.walk
     have HCL := hid (HIH.out q wr Sk hrq (HG0.out.trans (HG2.out.trans hgw.out)) hbk hmk)
     have HSN := hid hsn
     have HDK := hid hdk
     clear hc hsn hrq hq hsk hmk hdk hbk b1 b1' b2'
     go_wp2_with fail
     refine HCL.out.mono ?_
     rintro e w5 ⟨⟨v, rfl⟩, hg5, S5, hm5, hd5⟩
     have HM5 := hid hm5
     have HD5 := hid (HDK.out.snoc hd5)
     have HG5 := hid (hgw.out.trans hg5)
     clear hg5 hm5 hd5 b3'
     go_wp2_with fail
     go_roundg (xs.length - (k + 1))
     case measure => omega
     case rel => exact ⟨k + 1, by omega, rfl, by go_num, hid ⟨S5, HM5.out, by rw [HSN.out]; exact HD5.out⟩, HG5⟩
    ·obtain rfl : k = xs.length := by omega
     have hs2 := hsk.out
     rw [List.take_length, ← HXS.out] at hs2
     obtain ⟨Sk, hmk, hdk⟩ := hs2
     have HMK := hid hmk
     have HDK := hid hdk.up
     clear hsk hmk hdk
     go_wp2_with fail
     go_end0
     exact ⟨⟨_, rfl⟩, HG2.out.trans hgw.out, Sk, HMK.out, HDK.out⟩
  ·rw [hs] at hlk
   have HM := hid hm
   clear IH hb hg0 hN hm hrk hrank hlen HIH
   go_enter Tryz.func91, Tryz.ntmps91
   go_wp2_with fail
   refine bodyPost_ret (results_none rfl _ _ _) rfl ?_
   exact ⟨⟨_, rfl⟩, grown_some (Below.refl _ _), S, HM.out, Dfs.there hs⟩
termination_by n => n
theorem reach_gen {w : World} {F : Value} {a1 a2 a3 a4 : Nat} {G : World → Prop} (h1 : a1 = w.heap.size + 1) (h2 : a2 = w.heap.size + 2) (h3 : a3 = w.heap.size) (h4 : a4 = w.heap.size + 3)
  (h : ∀ W1, Boxes W1 (w.heap.size + 1) (w.heap.size + 2) w.heap.size (w.heap.size + 3) F → MapOf W1 (w.heap.size + 1) Value.bool (setF fun _ => false) → Below w.heap.size w W1 → G W1) :
  G ((((w.alloc (.cells #[F] 71)).alloc (.map #[] 0)).alloc (.cells #[.map (some a1)] 69)).alloc (.cells #[.func (.func 91) #[] #[.pointer (some ⟨a2, 0, none⟩), .pointer (some ⟨a3, 0, none⟩), .pointer (some ⟨a4, 0, none⟩)]] 135)) := by
 subst h1 h2 h3 h4
 refine h _ ⟨?_, ?_, ?_, by omega, by omega, by omega⟩ ⟨[], ⟨#[], 0, ?_, rfl, by simp [Borns]⟩, List.nodup_nil, fun _ => rfl⟩ ?_
 ·have e : ((w.alloc (.cells #[F] 71)).alloc (.map #[] 0)).heap.size = w.heap.size + 2 := by simp
  have h1 : (((w.alloc (.cells #[F] 71)).alloc (.map #[] 0)).alloc (.cells #[.map (some (w.heap.size + 1))] 69)).heap[w.heap.size + 2]? = some (.cells #[.map (some (w.heap.size + 1))] 69 (0, 0)) := by rw [← e, heap_alloc_new]
  have h2 := (heap_alloc_old (((w.alloc (.cells #[F] 71)).alloc (.map #[] 0)).alloc (.cells #[.map (some (w.heap.size + 1))] 69)) (.cells #[.func (.func 91) #[] #[.pointer (some ⟨w.heap.size + 2, 0, none⟩), .pointer (some ⟨w.heap.size, 0, none⟩), .pointer (some ⟨w.heap.size + 3, 0, none⟩)]] 135) (by simp only [World.size_alloc]; omega)).trans h1
  exact (World.cell?_of_block (a := ⟨w.heap.size + 2, 0, none⟩) (h2.trans h1.symm)).trans (by rw [← e, cell_new]; rfl)
 ·refine Kept.of_below (w := w.alloc (.cells #[F] 71)) ((((Below.refl _ _).alloc (Nat.le_refl _) _).alloc (by simp only [World.size_alloc]; omega) _).alloc (by simp only [World.size_alloc]; omega) _) _ _ ?_
  rw [cell_new]
  rfl
 ·have e : (((w.alloc (.cells #[F] 71)).alloc (.map #[] 0)).alloc (.cells #[.map (some (w.heap.size + 1))] 69)).heap.size = w.heap.size + 3 := by simp
  rw [← e, cell_new]
  rfl
 ·rw [heap_alloc_old _ _ (by simp only [World.size_alloc]; omega), heap_alloc_old _ _ (by simp only [World.size_alloc]; omega)]
  have : w.heap.size + 1 = (w.alloc (.cells #[F] 71)).heap.size := by simp
  rw [this, heap_alloc_new]
 ·exact ((((Below.refl _ _).alloc (Nat.le_refl _) _).alloc (by simp only [World.size_alloc]; omega) _).alloc (by simp only [World.size_alloc]; omega) _).alloc (by simp only [World.size_alloc]; omega) _
set_option maxHeartbeats 8000000 in
theorem reached_any (nx : Int → List Int) (rank : Int → Nat) (hrank : ∀ p, ∀ q ∈ nx p, rank q < rank p) (hlen : ∀ p, (nx p).length ≤ 1000) (w : World) (fid : FuncId) (hcf : Enters fid) (bv : Value)
  (hN : ∀ p wr, Below w.heap.size w wr → Calls Tryz.prog fid #[bv, .int .i64 p] wr (IntsPost (nx p) wr)) (p : Int) :
  Calls Tryz.prog 47 #[.int .i64 p, .func (.func fid) #[bv] #[]] w fun e w' => ∃ r S', e = .returned (.map (some r)) ∧ MapOf w' r Value.bool (setF S') ∧ (∀ q, S' q = true ↔ Reach nx p q) ∧ Below w.heap.size w w' := by
 have hmm := @run_makeMap Tryz.prog
 go_enter Tryz.func47, Tryz.ntmps47
 go_upto_region 4 with fail
 clear hmm
 refine reach_gen ?_ ?_ ?_ ?_ ?_
 ·simp
 ·simp
 ·simp
 ·simp
 intro W1 hb hm hbw
 have b3 := hb.walk
 have HC := hid (reached1_any nx rank hrank hlen W1 (w.heap.size + 1) (w.heap.size + 2) w.heap.size (w.heap.size + 3) fid hcf bv (fun q wr hg => hN q wr (hbw.grown hg hbw.size (fun j e => by cases e; omega))) (rank p + 1) p W1 _ (by omega) (grown_some (Below.refl _ _)) hb hm)
 have HB := hid hb
 have HBW := hid hbw
 clear hb hm hbw hN hrank hlen hcf
 go_wp2_with fail
 refine HC.out.mono ?_
 rintro e w2 ⟨⟨v, rfl⟩, hg, S', hm, hd⟩
 have b1 := (HB.out.grown hg).seen
 have HM := hid hm
 have HD := hid hd.reach
 have HB2 := hid (HBW.out.grown hg HBW.out.size (fun j e => by cases e; omega))
 clear hg hm hd
 go_wp2_with fail
 go_ret
 exact ⟨_, _, rfl, HM.out, HD.out, HB2.out⟩
end Go.Proofs.YtfaoillnakhejaaGreat
