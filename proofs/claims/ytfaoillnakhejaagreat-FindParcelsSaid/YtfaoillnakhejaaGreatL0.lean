/- slices.DeleteFunc of numbers again, for a function with two captured variables; and slices.Clone of numbers. -/
import Derived.Test.YtfaoillnakhejaaGreatH2
namespace Go.Proofs.YtfaoillnakhejaaGreat
set_option maxRecDepth 100000
open Go.RowKit
def AsksY (w : World) (fid : FuncId) (cv dv : Value) (xs : List Int) (q : Int → Bool) : Prop :=
 ∀ (x : Int) wr, x ∈ xs → Below w.heap.size w wr → Calls Tryz.prog fid #[.int .i64 x, cv, dv] wr fun e w' => e = .returned (.bool (q x)) ∧ Below wr.heap.size wr w'
def AsksGY (w : World) (g : Nat) (fid : FuncId) (cv dv : Value) (xs : List Int) (q : Int → Bool) : Prop :=
 ∀ x wr, x ∈ xs → w.grownBy wr (some g) → Calls Tryz.prog fid #[.int .i64 x, cv, dv] wr fun e w' => e = .returned (.bool (q x)) ∧ Below wr.heap.size wr w'
set_option maxHeartbeats 4000000 in
theorem indexIntsY_any (fid : FuncId) (hcf : Enters fid) (cv dv : Value) (q : Int → Bool) (A : Option Addr) (cap : Nat) (xs : List Int) (w : World) (hm : xs.length ≤ 1000000) (hA : IntsAt w A xs) (hF : AsksY w fid cv dv xs q) :
  Calls Tryz.prog 93 #[.slice A xs.length cap, .func (.func fid) #[] #[cv, dv]] w fun e w' => (∃ i : Int, e = .returned (.int .i64 i) ∧ FirstI xs q i) ∧ Below w.heap.size w w' := by
 have HA := hid hA
 have HF := hid hF
 clear hA hF
 unfold Enters at hcf
 go_enter Tryz.func93, Tryz.ntmps93
 go_wp2_with fail
 go_loopg [8] (xs.length) (fun g i wr => ∃ k : Nat, k ≤ xs.length ∧ g = xs.length - k ∧ i = .int .i64 k ∧ Hid (∀ x ∈ xs.take k, q x = false) ∧ Hid (Below w.heap.size w wr))
 case atStart => exact ⟨0, by omega, by omega, rfl, hid (by simp), hid (Below.refl _ _)⟩
 case round =>
  obtain ⟨k, hk, hgk, rfl, hno, hbw⟩ := hrel
  by_cases hlt : k < xs.length
  ·obtain ⟨b, off, hAe, hc⟩ := (HA.out.kept (Kept.of_below hbw.out)) (by omega)
   subst hAe
   have hck := hc k hlt
   have i0 : (0 : Int) ≤ k := by omega
   have i1 : (k : Int) < xs.length := by omega
   have hsn : xs.take (k + 1) = xs.take k ++ [xs[k]] := List.take_succ_eq_append_getElem hlt
   have hmem := List.getElem_mem hlt
   obtain ⟨x, hx⟩ : ∃ x, xs[k] = x := ⟨_, rfl⟩
   rw [hx] at hck hsn hmem
   have HX := hid hx
   have HSN := hid hsn
   have HMEM := hid hmem
   clear hc hx hsn hmem
   rcases hb : q x with _ | _
   ·have hcl := HF.out x wr HMEM.out hbw.out
    rw [hb] at hcl
    have HCL := hid hcl
    have HB := hid hb
    clear hb hcl
    go_wp2_with fail
    refine HCL.out.mono ?_
    rintro e w' ⟨rfl, hb'⟩
    have HB' := hid (hbw.out.trans (hb'.mono hbw.out.size))
    clear hb'
    go_wp2_with fail
    go_roundg (xs.length - (k + 1))
    case measure => omega
    case rel => exact ⟨k + 1, by omega, rfl, by go_num, hid (by
     rw [HSN.out]
     intro y hy
     rcases List.mem_append.1 hy with h | h
     ·exact hno.out y h
     ·rw [List.mem_singleton] at h
      subst h
      exact HB.out), HB'⟩
   ·have hcl := HF.out x wr HMEM.out hbw.out
    rw [hb] at hcl
    have HCL := hid hcl
    have HB := hid hb
    clear hb hcl
    go_wp2_with fail
    refine HCL.out.mono ?_
    rintro e w' ⟨rfl, hb'⟩
    have HB' := hid (hbw.out.trans (hb'.mono hbw.out.size))
    clear hb'
    go_wp2_with fail
    go_ret
    exact ⟨⟨_, rfl, .inr ⟨k, hlt, rfl, by rw [HX.out]; exact HB.out, hno.out⟩⟩, HB'.out⟩
  ·obtain rfl : k = xs.length := by omega
   have hno2 := hno.out
   rw [List.take_length] at hno2
   have HN := hid hno2
   clear hno2 hno
   go_wp2_with fail
   go_ret
   exact ⟨⟨_, rfl, .inl ⟨rfl, HN.out⟩⟩, hbw.out⟩
set_option maxHeartbeats 4000000 in
theorem deletedY_any (fid : FuncId) (hcf : Enters fid) (cv dv : Value) (q : Int → Bool) (g cap : Nat) (xs : List Int) (w : World) (hm : xs.length ≤ 1000000) (hc : xs.length ≤ cap) (n₀ : Nat) (hO : w.ownsRow n₀ 3 1 (.slice (some ⟨g, 0, none⟩) xs.length cap) xs.length (ints xs)) (hF : AsksGY w g fid cv dv xs q) :
  Calls Tryz.prog 49 #[.slice (some ⟨g, 0, none⟩) xs.length cap, .func (.func fid) #[] #[cv, dv]] w fun e w' =>
   e = .returned (.slice (some ⟨g, 0, none⟩) (dropQ q xs).length cap) ∧ w'.ownsRow n₀ 3 1 (.slice (some ⟨g, 0, none⟩) (dropQ q xs).length cap) (dropQ q xs).length (ints (dropQ q xs)) ∧ w.grownBy w' (some g) := by
 have hA : RowAt w g xs := RowAt.of_own hO
 have HO := hid hO
 have HBK : Hid (∃ cur, w.heap[g]? = some (.cells cur 3 (0, 0)) ∧ cur.size = cap) := hid (own_size hO)
 have HA := hid hA
 have HI := hid (indexIntsY_any fid hcf cv dv q (some ⟨g, 0, none⟩) cap xs w hm hA.intsAt (fun x wr hx hb => hF x wr hx (grown_some hb)))
 have HF := hid hF
 unfold Enters at hcf
 clear hA hO hF
 go_enter Tryz.func49, Tryz.ntmps49
 go_wp2_with fail
 refine HI.out.mono ?_
 rintro e w1 ⟨⟨i, rfl, hi⟩, hb1⟩
 have HA1 := hid (HA.out.below hb1)
 have HO1 := hid (own_below HO.out hb1)
 have HBK1 := hid (size_grown HBK.out hb1)
 have HG1 := hid (grown_some (r := g) hb1)
 clear hb1 HA HO HBK HI
 rcases hi with ⟨rfl, hno⟩ | ⟨i0, hi0, rfl, he, hn⟩
 ·have HD := hid (drop_same hno)
  clear hno
  go_wp2_with fail
  go_ret
  rw [HD.out]
  exact ⟨rfl, HO1.out, HG1.out⟩
 have z0 := hid (show i0 + 1 ≤ xs.length by omega)
 have d1 : ((i0 : Int) == -1) = false := beq_eq_false_iff_ne.2 (by omega)
 have SW := hid (Swept.start hi0 he hn)
 clear hn he
 go_wp2_with fail
 go_loopg [5, 6, 7] (xs.length - (i0 + 1)) (fun g' i j v wr => ∃ (a c : Nat) (zs : List Int), c ≤ xs.length ∧ g' = xs.length - c ∧ i = .int .i64 a ∧ j = .int .i64 c ∧ Hid (Swept q xs zs a c) ∧ Hid (RowAt wr g zs) ∧ Hid (∃ cur, wr.heap[g]? = some (.cells cur 3 (0, 0)) ∧ cur.size = cap) ∧ Hid (w.grownBy wr (some g)))
 case atStart => exact ⟨i0, i0 + 1, xs, z0.out, by omega, rfl, by go_num, SW, HA1, HBK1, HG1⟩
 case round =>
  obtain ⟨a, c, zs, hc1, hgk, rfl, rfl, hsw, hrow, hbk, ho⟩ := hrel
  have l1 := hsw.out.i_lt
  have l2 := hsw.out.len
  have HL2 := hid l2
  by_cases hlt : c < xs.length
  ·have hz : c < zs.length := by omega
   have hcell := (hrow.out c hz).1
   have ha : a < zs.length := by omega
   have hzx : Hid (zs[c] = xs[c]) := hid (by have := hsw.out.tail c (Nat.le_refl _); rw [List.getElem?_eq_getElem hz, List.getElem?_eq_getElem hlt] at this; exact Option.some.inj this)
   have i0' : (0 : Int) ≤ c := by omega
   have i1 : (c : Int) < xs.length := by omega
   have i2 : (0 : Int) ≤ a := by omega
   have i3 : (a : Int) < xs.length := by omega
   have hmem := List.getElem_mem hlt
   have hkp := fun h => hsw.out.keep hlt h
   have hsp := fun h => hsw.out.skip hlt h
   rw [hzx.out] at hcell
   obtain ⟨x, hx⟩ : ∃ x, xs[c] = x := ⟨_, rfl⟩
   rw [hx] at hcell hmem hkp hsp
   have hcl := HF.out x wr hmem ho.out
   rcases hq : q x with _ | _
   ·rw [hq] at hcl
    have HCL := hid hcl
    have HSW := hid (hkp hq)
    have HAL := hid ha
    clear l2 hq hcl hx hmem hkp hsp hzx hz ha
    go_wp2_with fail
    refine HCL.out.mono ?_
    rintro e w' ⟨rfl, hb'⟩
    have HR' := hid (hrow.out.below hb')
    have hcell2 := (HR'.out a HAL.out).1
    have hfr2 := (HR'.out a HAL.out).2
    have HBK' := hid (size_grown hbk.out hb')
    have HG' := hid (ho.out.trans (grown_some hb'))
    clear hb'
    go_wp2_with fail
    go_roundg (xs.length - (c + 1))
    case measure => omega
    case rel => exact ⟨a + 1, c + 1, _, by omega, rfl, by go_num, by go_num, HSW, hid (HR'.out.set a x), hid (size_set HBK'.out), hid (HG'.out.trans (grown_set _ _ _ _))⟩
   ·rw [hq] at hcl
    have HCL := hid hcl
    have HSW := hid (hsp hq)
    clear l2 hq hcl hx hmem hkp hsp hzx hz ha
    go_wp2_with fail
    refine HCL.out.mono ?_
    rintro e w' ⟨rfl, hb'⟩
    have HR' := hid (hrow.out.below hb')
    have HBK' := hid (size_grown hbk.out hb')
    have HG' := hid (ho.out.trans (grown_some hb'))
    clear hb'
    go_wp2_with fail
    go_roundg (xs.length - (c + 1))
    case measure => omega
    case rel => exact ⟨a, c + 1, zs, by omega, rfl, by go_num, by go_num, HSW, HR', HBK', HG'⟩
  ·obtain rfl : c = xs.length := by omega
   have hcl : ∀ ty, (Builtin.clear_ #[25] ty #[.slice (some ⟨g, a, none⟩) (xs.length - a) (cap - a)]).run Tryz.prog wr = .ok (.tuple #[]) (wr.setCells g a (List.replicate (xs.length - a) (.int .i64 0))) :=
    fun ty => Go.Lib.run_clear_slice wr _ _ ty _ intsl_u int_zeroV rfl rfl g a _ _ (by omega) (fun t ht => by rw [(hrow.out (a + t) (by omega)).1]; rfl) (fun t ht => (hrow.out (a + t) (by omega)).2)
   have hne : ¬ cap = a := by omega
   have z1 : (a : Int) ≤ xs.length := by omega
   have z2 : (a : Int) ≤ cap := by omega
   clear hlt hgk l2
   go_wp2
   go_ret
   have hl3 := HL2.out
   have hle : (dropQ q xs).length = a := by
    have h := congrArg List.length hsw.out.head
    rw [List.take_length, List.length_take] at h
    omega
   have hd : dropQ q xs = zs.take a := by rw [hsw.out.head, List.take_length]
   have hr : RowAt (wr.setCells g a (List.replicate (xs.length - a) (.int .i64 0))) g (dropQ q xs) := fun j hj => by
    rw [hle] at hj
    refine ⟨?_, by rw [World.frozen?_setCells]; exact (hrow.out j (by omega)).2⟩
    rw [World.cell?_setCells_out _ _ _ _ _ (fun _ _ => .inl hj), (hrow.out j (by omega)).1]
    simp only [hd, List.getElem_take]
   obtain ⟨cur, hcur, hsz⟩ := size_cells (List.replicate (xs.length - a) (.int .i64 0)) a hbk.out
   exact ⟨by rw [hle]; rfl, own_of_row HO1.out hcur hsz (by rw [hle]; omega) hr, ho.out.trans (grown_cells _ _ _ _)⟩
set_option maxHeartbeats 4000000 in
theorem deletedY_none (fid : FuncId) (hcf : Enters fid) (cv dv : Value) (A : Option Addr) (cap : Nat) (w : World) :
  Calls Tryz.prog 49 #[.slice A 0 cap, .func (.func fid) #[] #[cv, dv]] w fun e w' => e = .returned (.slice A 0 cap) ∧ Below w.heap.size w w' := by
 have hi0 := indexIntsY_any fid hcf cv dv (fun _ => false) A cap [] w (by simp) (fun h => by simp at h) (fun x wr hx => by simp at hx)
 rw [show ([] : List Int).length = 0 from rfl] at hi0
 have HI := hid hi0
 unfold Enters at hcf
 clear hi0
 go_enter Tryz.func49, Tryz.ntmps49
 go_wp2_with fail
 refine HI.out.mono ?_
 rintro e w1 ⟨⟨i, rfl, hi⟩, hb1⟩
 have HB1 := hid hb1
 rcases hi with ⟨rfl, _⟩ | ⟨i0, hi0, _⟩
 ·clear hb1 HI
  go_wp2_with fail
  go_ret
  exact ⟨rfl, HB1.out⟩
 ·simp at hi0
set_option maxHeartbeats 4000000 in
theorem cloneI_any (A : Option Addr) (cap : Nat) (xs : List Int) (w : World) (hA : IntsAt w A xs) (hl : xs.length ≤ 100000) (hn : A = none → xs = []) :
  Calls Tryz.prog 107 #[.slice A xs.length cap] w fun e w' => ∃ v, e = .returned v ∧ w'.ownsRow w.heap.size 3 1 v xs.length (ints xs) ∧ Below w.heap.size w w' := by
 have heq := Go.Lib.run_eql_slice_nil (P := Tryz.prog) w 25 3 A xs.length cap 0 0 intsl_u
 rcases A with _ | a
 ·have h0 := hn rfl
  subst h0
  have heq : (binOp .eql 25 (.slice none 0 cap) (.slice none 0 0)).run Tryz.prog w = .ok (.bool true) w := heq
  go_enter Tryz.func107, Tryz.ntmps107
  go_wp2_with fail
  go_ret
  exact ⟨_, rfl, World.ownsRow_nil _ _ _ _, Below.refl _ _⟩
 ·have heq : (binOp .eql 25 (.slice (some a) xs.length cap) (.slice none 0 0)).run Tryz.prog w = .ok (.bool false) w := heq
  obtain ⟨v9, w9, hr9, ho9, hg9⟩ := app_ints (base := w.heap.size) (xs := []) (ys := xs) (A := some a) (c := cap) (World.ownsRow_lit w #[] 0 (Nat.le_refl _) (by decide) rfl) (hA.kept (Kept.of_below ((Below.refl _ w).alloc (Nat.le_refl _) _))) (by simp; omega) (by simp)
  have HR9 := hid hr9
  have HO9 := hid ho9
  have HB9 := hid (((Below.refl _ w).alloc (Nat.le_refl _) (.cells #[] 3)).grown hg9 (by simp) (fun j e => by cases e; exact Nat.le_refl _))
  clear hr9 ho9 hg9 hA
  go_enter Tryz.func107, Tryz.ntmps107
  go_wp2_with (first | (at_builtin; refine wpList_app rfl rfl rfl rfl rfl HR9.out ?_))
  go_ret
  exact ⟨_, rfl, HO9.out, HB9.out⟩
end Go.Proofs.YtfaoillnakhejaaGreat
