/- graph: the arcs of a beach, collected; the graph in memory; A row of numbers from which the first is taken, and behind which one is laid; The flows as the program reckons them: the search for a way, its room, leading along it (plain); The memory of the search for a way; side: the moves of some nodes. -/
import Derived.Test.YtfaoillnakhejaaGreatH9
import Derived.Great.BuildSlice
import Derived.ArgAppend
import Derived.BigRegion
import Derived.BigQuiet
namespace Go.Proofs.YtfaoillnakhejaaGreat
set_option maxRecDepth 100000
open Go.RowKit
section
open Go.RowKit Go.Shelf
theorem arcs_any (bb : Nat) (w : World) :
  Calls Tryz.prog 71 #[.pointer (some ⟨bb, 0, none⟩)] w fun e w' =>
   e = .returned (.func (.func 112) #[] #[.pointer (some ⟨w.heap.size, 0, none⟩)]) ∧ Below w.heap.size w w' ∧
   w'.cell? ⟨w.heap.size, 0, none⟩ = some (.pointer (some ⟨bb, 0, none⟩)) ∧ w.heap.size < w'.heap.size := by
 go_enter Tryz.func71, Tryz.ntmps71
 go_wp2_with fail
 go_ret
 exact ⟨rfl, (Below.refl _ _).alloc (Nat.le_refl _) _, (Boxed.new w _ _).cell, by simp⟩
theorem arcs_stops (n : Nat) (hn : 1 ≤ n) (B1 : Nat) (w0 : World) {bb s r1 r2 r3 r4 : Nat} {A : Option Addr} {cap : Nat} {C : List Ent} {ids : List Int} (h : LooksAt w0 bb s r1 r2 r3 r4 A cap C ids)
  (hil : ids.length ≤ 100000) (w : World) (hw : Below w0.heap.size w0 w) (hB1 : w.cell? ⟨B1, 0, none⟩ = some (.pointer (some ⟨bb, 0, none⟩))) :
  SeqStopsK Fence.wide n Tryz.prog 112 #[.pointer (some ⟨B1, 0, none⟩)] (fun x : Arc => #[x.val]) (Keep2 w0.heap.size B1 B1) (fun ys => ys = arcsF C ids) (fun pre => pre <+: arcsF C ids) ids.length w :=
 fun l J Jx W hW hJ _ hY h0 => callsIn_wide.2 (arcs1_in n hn l B1 w0 h hil J Jx W hJ hY (hw.trans (hW.mono hw.size)) (Kept.of_below hW _ _ hB1) h0)
theorem enters88 : Enters 112 := fun args w => by kernel_rfl
def flatA (L : List Arc) : List Value := L.flatMap fun a => a.cells.toList
theorem flatA_snoc (L : List Arc) (a : Arc) : flatA (L ++ [a]) = flatA L ++ a.cells.toList := by simp [flatA]
theorem flatA_length (L : List Arc) : (flatA L).length = L.length * 5 := by
 induction L with
 | nil => rfl
 | cons e L ih =>
  show (e.cells.toList ++ flatA L).length = _
  rw [List.length_append, ih, List.length_cons]
  show 5 + _ = _
  omega
theorem flatA_at : ∀ (L : List Arc) (i : Nat) (h : i < L.length) (j : Nat) (v : Value), (L[i].cells).toList[j]? = some v → (flatA L)[i * 5 + j]? = some v
 | [], i, h, _, _, _ => by simp at h
 | e :: L, 0, h, j, v, hv => by
  show (e.cells.toList ++ flatA L)[0 * 5 + j]? = _
  have hj : j < 5 := (List.getElem?_eq_some_iff.1 hv).1
  rw [Nat.zero_mul, Nat.zero_add, List.getElem?_append_left hj]
  exact hv
 | e :: L, i + 1, h, j, v, hv => by
  show (e.cells.toList ++ flatA L)[(i + 1) * 5 + j]? = _
  have h5 : e.cells.toList.length = 5 := rfl
  rw [List.getElem?_append_right (by rw [h5]; omega), h5, show (i + 1) * 5 + j - 5 = i * 5 + j by omega]
  exact flatA_at L i (by simpa using h) j v (by simpa using hv)
/-- A slice that starts at A holds the arcs L. -/
def ArcsAt (w : World) (A : Option Addr) (L : List Arc) : Prop :=
 0 < L.length → ∃ b off, A = some ⟨b, off, none⟩ ∧ ∀ i (h : i < L.length), w.rangeAt b (off + i * 5) (L[i].cells).toList
theorem ArcsAt.kept {w w' : World} {A : Option Addr} {L : List Arc} (h : ArcsAt w A L) (k : Kept w w') : ArcsAt w' A L := fun h0 => by
 obtain ⟨b, off, e, hc⟩ := h h0
 exact ⟨b, off, e, fun i hi => rangeAt_kept (hc i hi) k⟩
theorem arcs_of_cells {w : World} {A : Option Addr} {L : List Arc} (h : CellsAt w A (flatA L)) : ArcsAt w A L := fun h0 => by
 obtain ⟨b, off, e, hc⟩ := h (by rw [flatA_length]; omega)
 refine ⟨b, off, e, fun i hi j v hv => ?_⟩
 have := hc _ _ (flatA_at L i hi j v hv)
 rwa [← Nat.add_assoc] at this
theorem load_arc_mid {ops : Array Oper} {rest : List Oper} {o : Oper} {a : Act} {w : World} {Q : Exit → Act → World → Prop} (hgd : o.guard = none) (x : Operand) (ho : o.op = .load 102 x)
  (b f : Nat) (hx : a.eval x = .pointer (some ⟨b, f, none⟩)) {r : Arc} (hg : w.rangeAt b f (r.cells).toList)
  (h : wpList Tryz.prog ops Q rest (a.put o.dst r.val) w) : wpList Tryz.prog ops Q (o :: rest) a w := by
 refine wpList_load_mid hgd _ x ho b f hx (r.cells).toList _ hg Tryz.underlying102 rfl arc_info ?_
 simpa using h
theorem arcA_info : ∃ i z, Tryz.prog.info? 102 = some i ∧ i.zero = some z ∧ i.size = 5 ∧ i.bytes = 40 ∧ z.cells.size = 5 := by
 have h : (Tryz.prog.info? 102).map (fun i => (i.zero.map (·.cells.size), i.size, i.bytes)) = some (some 5, 5, 40) := by kernel_rfl
 rcases hi : Tryz.prog.info? 102 with _ | i
 ·rw [hi] at h; cases h
 ·rw [hi] at h
  simp only [Option.map_some, Option.some.injEq, Prod.mk.injEq] at h
  obtain ⟨h1, h2, h3⟩ := h
  rcases hz : i.zero with _ | z
  ·rw [hz] at h1; cases h1
  ·rw [hz] at h1
   simp only [Option.map_some, Option.some.injEq] at h1
   exact ⟨i, z, rfl, hz, h2, h3, h1⟩
theorem arcsl_u : Tryz.prog.underlying 98 = some (.slice 102) := by kernel_rfl
theorem fill_arc (r : Arc) (i : TypeInfo) (z : Value) (h3 : i.size = 5) (a : Act) (x : Operand) (hx : a.eval x = r.val) :
  Instr.fill (fun k => some (k * i.size, i.size)) ((Array.range (1 * i.size)).map (z.cells[· % z.cells.size]!)) ((#[(0, x)] : Array (Nat × Operand)).map fun (i, x) => (i, a.eval x)).toList = some r.cells := by
 rw [h3]
 have h6 := Great.fill_whole (s := 5) (by omega) [r.val] ((Array.range (1 * 5)).map (z.cells[· % z.cells.size]!)) (by intro v hv; rw [List.mem_singleton] at hv; subst hv; rfl) (by simp)
 have h7 : ((#[(0, x)] : Array (Nat × Operand)).map fun (i, x) => (i, a.eval x)).toList = (([r.val].zipIdx 0).map fun x => (x.2, x.1)) := by
  simp [hx]
 rw [h7, h6]
 simp [Value.cells]
theorem build_arcIn {F : Fence} {n : Nat} {ops : Array Oper} {rest : List Oper} {o : Oper} {a : Act} {w : World} {Q : Exit → Act → World → Prop} (hgd : o.guard = none) (x : Operand) (ho : o.op = .buildSlice 98 1 #[(0, x)])
  {r : Arc} (hx : a.eval x = r.val) (h : wpListIn F n Tryz.prog ops Q rest (a.put o.dst (.slice (some ⟨w.heap.size, 0, none⟩) 1 1)) (w.alloc (.cells r.cells 102))) : wpListIn F n Tryz.prog ops Q (o :: rest) a w := by
 obtain ⟨i, z, h1, h2, h3, _, _⟩ := arcA_info
 refine wpListIn_plain hgd fun K hK => ?_
 unfold Oper.wpIn
 refine ⟨?_, ?_⟩
 ·simp [Oper.about, ho]
 ·rw [Oper.semAt_plain F _ _ (by rw [ho]; intro c hc'; cases hc')]
  unfold execOp
  have hf := fill_arc r i z h3 a x hx
  simp only [ho, Sem.run_bind, run_buildSlice w _ _ 1 _ r.cells i z arcsl_u h1 h2 (by omega) (by omega) hf, Result.andThen_ok]
  exact hK _ _ h
section
attribute [local go_sem] Oper.semAt_some
theorem keeps_others_below {B : Nat} {W W' : World} (h : Below W.heap.size W W') : KeepsFrom B W W' := keeps_below h
set_option maxHeartbeats 8000000 in
theorem appendSeqA_any {gf : Nat} {lb : Array Value} {S Sp : List Arc → Prop} {N B1 : Nat} (hN : N ≤ 100000) (w0 w : World) (eg : Enters gf) (h0w : Below w0.heap.size w0 w) (hseq : SeqStopsK Fence.wide 8 Tryz.prog gf lb (fun x : Arc => #[x.val]) (Keep2 w0.heap.size B1 B1) S Sp N w)
  (hB1 : B1 < w.heap.size) :
  Calls Tryz.prog 148 #[.slice none 0 0, .func (.func gf) #[] lb] w fun e w' => ∃ ys v, e = .returned v ∧ S ys ∧ w'.ownsRow w.heap.size 102 5 v ys.length (flatA ys) ∧ Below w.heap.size w w' := by
 have HSEQ := hid hseq
 have h0s := h0w.size
 clear hseq
 refine callsIn_wide.1 (callsIn_of_wp_marks (F := Fence.wide) (n := 9) Tryz.func148 rfl trivial ?_ rfl)
 simp only [Tryz.ntmps148, List.size_toArray, List.length_cons, List.length_nil, Nat.reduceAdd, Nat.reduceSub, Array.replicate_succ, Array.replicate_zero, List.push_toArray, List.append_toArray, List.nil_append, List.cons_append]
 refine (wpIn_wide (n := 9)).2 ?_
 go_wp2_with fail
 obtain ⟨W0, hW0⟩ : ∃ W0, w.alloc (.cells #[.slice none 0 0] 98) = W0 := ⟨_, rfl⟩
 have hs0 : W0.heap.size = w.heap.size + 1 := by rw [← hW0]; simp
 have hv0 : Boxed W0 w.heap.size 98 (.slice none 0 0) := by rw [← hW0]; exact Boxed.new w _ _
 have hb0 : Below w.heap.size w W0 := by rw [← hW0]; exact (Below.refl _ w).alloc (Nat.le_refl _) _
 rw [hW0]
 clear hW0
 refine (wpIn_wide (n := 9)).1 ?_
 refine range_box (F := Fence.wide) (n := 9) rfl (by decide) (gf := gf) rfl trivial eg HSEQ.out (fun h k => h.t k) (Keep2.put (by omega)) hb0
  (fun pre W => (∃ v, Boxed W w.heap.size 98 v ∧ W.ownsRow w.heap.size 102 5 v pre.length (flatA pre) ∧ True) ∧ Below w.heap.size w W)
  (((holdsRow_own w.heap.size w.heap.size 98 102 5 (fun pre : List Arc => pre.length) flatA (fun _ _ => True)).from _).and (ownFrom_below (Nat.le_refl _) hb0.size)) ⟨⟨_, hv0, ⟨rfl, .inl ⟨rfl, rfl⟩⟩, trivial⟩, hb0⟩ 5 (fun W b e => ArcIs W b e) (fun e b => block_stays) ?assign ?body ?done
 case assign =>
  rintro l pre x W K ⟨⟨v, hv, hrow, _⟩, hbl⟩ hK
  simp only [zz4, zz5, zz6] at hK ⊢
  have HK := hid hK
  have HV := hid hv
  have HR := hid hrow
  have HBL := hid hbl
  have hbs := hbl.size
  clear hK hv hrow hbl
  gi_wp2_with (first | (refine store_arc_newIn rfl _ _ rfl rfl rfl (q := x) rfl rfl rfl ?_; intro W' hax hbw hltw))
  exact HK.out _ _ (keeps_below hbw) ((Keep2.r W).below (by omega) hbw) ⟨⟨v, HV.out.kept (grown_of_below hbw) (by simp), own_below HR.out hbw, trivial⟩, HBL.out.trans (hbw.mono hbs)⟩ hax
 case body =>
  rintro l pre x b W ⟨⟨v, hv, hrow, _⟩, hbl⟩ hax hlt
  simp only [zz4, zz5, zz6]
  obtain ⟨i0, z, hi, hz0, hz1, hz2, hz3⟩ := arcA_info
  have hc := hv.cell
  have hf := hv.frozen
  have hbs := hbl.size
  have HAX := hid hax
  clear hax
  gi_wp2_with (first
   | refine load_arcIn rfl _ rfl _ rfl HAX.out ?_
   | refine build_arcIn rfl _ rfl (r := x) rfl ?_
   | (gi_at_builtin; refine wpListIn_append_own _ rfl _ _ 98 rfl w.heap.size 102 i0 z 5 40 arcsl_u hi hz0 hz1 hz2 hz3 (by decide) _ _ _ rfl (hrow.alloc _) ⟨W.heap.size, 0, none⟩ 1 1 x.cells.toList rfl rfl (fun j u hj => by rw [add_lit, Nat.zero_add, cell_new]; simpa using hj) (fun u hu => Array.all_eq_true_iff_forall_mem.1 (arc_one x) u (by simpa using hu)) (by simp [maxLen]; omega) (by omega) (by simp; omega) ?_; intro v' w3 hown' hg3 hnil3
      obtain ⟨hv1, hv2, ho2, hk2, hb2⟩ := hv.appended (tmp := .cells x.cells 102) (by decide) hrow hbs (Nat.le_refl _) hown' hg3
      have hc1 := hv1.cell
      have hf1 := hv1.frozen
      obtain ⟨g', cap', rfl⟩ := ownsRow_succ hown'))
  have he : (pre ++ [x]).length = pre.length + 1 := by simp
  rw [← flatA_snoc] at ho2
  have ho3 : (w3.setCell ⟨w.heap.size, 0, none⟩ (Value.slice (some ⟨g', 0, none⟩) (pre.length + 1) cap')).ownsRow w.heap.size 102 5 (Value.slice (some ⟨g', 0, none⟩) (pre.length + 1) cap') (pre ++ [x]).length (flatA (pre ++ [x])) := by
   rw [he]
   exact ho2
  exact ⟨hk2.from _, ⟨hb2.mono (by omega), fun u hu => (hb2.cell (p := ⟨B1, 0, none⟩) hB1).trans hu, fun u hu => (hb2.cell (p := ⟨B1, 0, none⟩) hB1).trans hu⟩, ⟨_, hv2, ho3⟩, hbl.trans hb2⟩
 case done =>
  rintro D ys W hD hS ⟨⟨v, hv, hrow, _⟩, hbl⟩ hK
  have hc := hv.cell
  obtain ⟨A7, k7, rfl, hx1⟩ := ownsRow.form hrow
  clear hx1
  go_wp2_with fail
  have hbs := hbl.size
  refine ⟨by simp, .inl ⟨_, _, rfl, run_takeDeferred hK, _, results_tmp rfl _ _ _, _, _, rfl, hS, ownsRow_putObj hrow _ hK rfl, ?_⟩⟩
  exact hbl.trans ((belowK_b (w := w) (Nat.le_refl _) W D _ _ (by omega) hK rfl rfl))
end
theorem collectA_any {gf : Nat} {lb : Array Value} {S Sp : List Arc → Prop} {N B1 : Nat} (hN : N ≤ 100000) (w0 w : World) (eg : Enters gf) (h0w : Below w0.heap.size w0 w) (hseq : SeqStopsK Fence.wide 8 Tryz.prog gf lb (fun x : Arc => #[x.val]) (Keep2 w0.heap.size B1 B1) S Sp N w)
  (hB1 : B1 < w.heap.size) :
  Calls Tryz.prog 109 #[.func (.func gf) #[] lb] w fun e w' => ∃ ys v, e = .returned v ∧ S ys ∧ w'.ownsRow w.heap.size 102 5 v ys.length (flatA ys) ∧ Below w.heap.size w w' := by
 have HC := hid (appendSeqA_any hN w0 w eg h0w hseq hB1)
 clear hseq
 go_enter Tryz.func109, Tryz.ntmps109
 go_wp2_with fail
 refine HC.out.mono ?_
 rintro e w2 ⟨ys, v, rfl, hS, ho, hb⟩
 obtain ⟨A7, k7, rfl, hx1⟩ := ownsRow.form ho
 have HO := hid ho
 have HB := hid hb
 clear hx1 ho hb HC
 go_wp2_with fail
 go_ret
 exact ⟨ys, _, rfl, hS, HO.out, HB.out⟩
/-- A graph in memory: its arcs, and their amounts. -/
structure GraphAt (w : World) (g : Nat) (A : Option Addr) (c : Nat) (L : List Arc) (X : Option Addr) (xn xc : Nat) : Prop where
 box : w.heap[g]? = some (.cells #[.slice A L.length c, .slice X xn xc] 100 (0, 0))
 arcs : ArcsAt w A L
 cap : L.length ≤ c
theorem GraphAt.at_ {w : World} {g : Nat} {A : Option Addr} {c : Nat} {L : List Arc} {X : Option Addr} {xn xc : Nat} (h : GraphAt w g A c L X xn xc) : w.cell? ⟨g, 0, none⟩ = some (.slice A L.length c) ∧ w.cell? ⟨g, 1, none⟩ = some (.slice X xn xc) ∧ w.frozen? ⟨g, 1, none⟩ = false := by
 have := h.box
 simp [World.cell?, World.frozen?, this]
theorem GraphAt.lt {w : World} {g : Nat} {A : Option Addr} {c : Nat} {L : List Arc} {X : Option Addr} {xn xc : Nat} (h : GraphAt w g A c L X xn xc) : g < w.heap.size := (Array.getElem?_eq_some_iff.1 h.box).1
theorem GraphAt.below {w w' : World} {g : Nat} {A : Option Addr} {c : Nat} {L : List Arc} {X : Option Addr} {xn xc : Nat} (h : GraphAt w g A c L X xn xc) (hb : Below w.heap.size w w') : GraphAt w' g A c L X xn xc :=
 ⟨(hb.block g h.lt).trans h.box, h.arcs.kept (Kept.of_below hb), h.cap⟩
set_option maxHeartbeats 8000000 in
theorem graph_any {w : World} {bb s r1 r2 r3 r4 : Nat} {A : Option Addr} {cap : Nat} {C : List Ent} {ids : List Int} (h : LooksAt w bb s r1 r2 r3 r4 A cap C ids) (hil : ids.length ≤ 100000) :
  Calls Tryz.prog 64 #[.pointer (some ⟨bb, 0, none⟩)] w fun e w' => ∃ g Aa c, e = .returned (.pointer (some ⟨g, 0, none⟩)) ∧ GraphAt w' g Aa c (arcsF C ids) none 0 0 ∧ w.heap.size ≤ g ∧ (∀ a, Aa = some a → w.heap.size ≤ a.block ∧ a.block ≠ g) ∧ Below w.heap.size w w' := by
 have HA := hid (arcs_any bb w)
 have HL := hid h
 clear h
 go_enter Tryz.func64, Tryz.ntmps64
 go_wp2_with fail
 refine HA.out.mono ?_
 rintro e w2 ⟨rfl, hb2, hc2, hlt2⟩
 have HC := hid (collectA_any hil w w2 enters88 hb2 (arcs_stops 8 (by decide) w.heap.size w HL.out hil w2 hb2 hc2) hlt2)
 have HB2 := hid hb2
 clear hb2 hc2 HA
 go_wp2_with fail
 refine HC.out.mono ?_
 rintro e w3 ⟨ys, v, rfl, hys, ho, hb3⟩
 obtain ⟨A7, k7, rfl, hx1, hx2, hx3⟩ := ownsRow.form ho
 have HAR := hid (arcs_of_cells hx1)
 have HCP := hid hx2
 have HAD := hid hx3
 have HO := hid ho
 have HB3 := hid (HB2.out.trans (hb3.mono HB2.out.size))
 have HYS := hid hys
 clear hx1 hx2 hx3 ho hb3 HC hys
 go_wp2_with fail
 go_ret
 have hs2 := HB2.out.size
 have hs3 := HB3.out.size
 obtain rfl := HYS.out
 refine ⟨w3.heap.size, A7, k7, rfl, ⟨heap_alloc_new w3 _, HAR.out.kept (Kept.of_below ((Below.refl _ _).alloc (Nat.le_refl _) _)), HCP.out⟩, hs3, fun a ha => ?_, HB3.out.alloc hs3 _⟩
 obtain ⟨h1, h2, _⟩ := HAD.out a ha
 subst ha
 have := (HO.out.lt a.block (by rw [h2]; rfl)).2
 omega
end
/-- A slice, of a block of the call's own, anywhere in it. -/
def Queue (w : World) (base : Nat) (v : Value) (xs : List Int) : Prop :=
 ∃ g off cap cur, v = .slice (some ⟨g, off, none⟩) xs.length cap ∧ base ≤ g ∧ w.heap[g]? = some (.cells cur 3 (0, 0)) ∧ off + cap ≤ cur.size ∧ (∀ j (h : j < xs.length), cur[off + j]? = some (.int .i64 xs[j])) ∧ xs.length ≤ cap ∧ cap ≤ maxLen
theorem Queue.one (w : World) (x : Int) : Queue (w.alloc (.cells #[.int .i64 x] 3)) w.heap.size (.slice (some ⟨w.heap.size, 0, none⟩) 1 1) [x] :=
 ⟨w.heap.size, 0, 1, _, rfl, Nat.le_refl _, heap_alloc_new w _, by simp, fun j h => by
  have : j = 0 := by simpa using h
  subst this; rfl, by simp, by simp [maxLen]⟩
theorem Queue.same {w w' : World} {base : Nat} {v : Value} {xs : List Int} (h : Queue w base v xs) (hk : ∀ g, base ≤ g → g < w.heap.size → w'.heap[g]? = w.heap[g]?) : Queue w' base v xs := by
 obtain ⟨g, off, cap, cur, h1, h2, h3, h4⟩ := h
 exact ⟨g, off, cap, cur, h1, h2, (hk g h2 (Array.getElem?_eq_some_iff.1 h3).1).trans h3, h4⟩
theorem Queue.below {w w' : World} {base : Nat} {v : Value} {xs : List Int} (h : Queue w base v xs) (hb : Below w.heap.size w w') : Queue w' base v xs := h.same fun g _ hl => hb.block g hl
theorem Queue.grown {w w' : World} {base : Nat} {v : Value} {xs : List Int} {q : Nat} (h : Queue w base v xs) (hg : w.grownBy w' (some q)) (hq : ∀ cur, w.heap[q]? ≠ some (.cells cur 3 (0, 0))) : Queue w' base v xs := by
 obtain ⟨g, off, cap, cur, h1, h2, h3, h4⟩ := h
 exact ⟨g, off, cap, cur, h1, h2, (hg.block g (Array.getElem?_eq_some_iff.1 h3).1 (fun e => by cases e; exact hq _ h3)).trans h3, h4⟩
theorem Queue.form {w : World} {base : Nat} {v : Value} {x : Int} {xs : List Int} (h : Queue w base v (x :: xs)) : ∃ g off cap, v = .slice (some ⟨g, off, none⟩) (xs.length + 1) (cap + 1) ∧ w.cell? ⟨g, off, none⟩ = some (.int .i64 x) ∧ xs.length ≤ cap ∧ Queue w base (.slice (if cap = 0 then some ⟨g, off, none⟩ else some ⟨g, off + 1, none⟩) xs.length cap) xs := by
 obtain ⟨g, off, cap, cur, h1, h2, h3, h4, h5, h6, h7⟩ := h
 simp only [List.length_cons] at h1 h5 h6
 obtain ⟨c, rfl⟩ : ∃ c, cap = c + 1 := ⟨cap - 1, by omega⟩
 have h0 : w.cell? ⟨g, off, none⟩ = some (.int .i64 x) := by
  have := h5 0 (by omega)
  simp only [World.cell?, h3]
  simpa using this
 by_cases hc : c = 0
 ·subst hc
  refine ⟨g, off, 0, h1, h0, by omega, g, off, 0, cur, by rw [if_pos rfl], h2, h3, by omega, fun j hj => absurd hj (by omega), by omega, by omega⟩
 refine ⟨g, off, c, h1, h0, by omega, g, off + 1, c, cur, by rw [if_neg hc], h2, h3, by omega, fun j hj => ?_, by omega, by omega⟩
 ·have := h5 (j + 1) (by omega)
  rw [show off + 1 + j = off + (j + 1) by omega, this]
  simp
theorem Queue.push {w : World} {base : Nat} {v : Value} {xs : List Int} (x : Int) (h : Queue w base v xs) (hl : xs.length ≤ 100000) (hbase : base ≤ w.heap.size) :
  ∃ v' w', (Builtin.append_ #[25, 25] 25 #[v, .slice (some ⟨w.heap.size, 0, none⟩) 1 1]).run Tryz.prog (w.alloc (.cells #[.int .i64 x] 3)) = .ok v' w' ∧ Queue w' base v' (xs ++ [x]) ∧ Below base w w' ∧ KeepsOthers w w' ∧ ∀ (k : Nat) (cs : Array Value) (t : TypeId) (fr : Nat × Nat), w.heap[k]? = some (Obj.cells cs t fr) → t ≠ 3 → w'.heap[k]? = some (Obj.cells cs t fr) := by
 obtain ⟨i, hi, hz, hsz, hby⟩ := ints_info
 obtain ⟨g, off, cap, cur, rfl, h2, h3, h4, h5, h6, h7⟩ := h
 have hlt := (Array.getElem?_eq_some_iff.1 h3).1
 have h3' : (w.alloc (.cells #[.int .i64 x] 3)).heap[g]? = some (.cells cur 3 (0, 0)) := (Below.heap_alloc _ _ g hlt).trans h3
 by_cases hroom : xs.length + 1 ≤ cap
 ·have hr := run_append_room_cells (P := Tryz.prog) (w := w.alloc (.cells #[.int .i64 x] 3)) 25 25 3 i intsl_u hi g off xs.length cap ⟨w.heap.size, 0, none⟩ 1 1 [.int .i64 x] (by rw [hsz]; rfl) (cell_one_new _ _ _) (by simp [Value.oneCell']) hroom
   (fun j hj => by
    have : j = 0 := by simpa using hj
    subst this
    simp only [World.cell?, h3', hsz]
    simp
    omega) (fun j hj => by simp [World.frozen?, h3'])
  refine ⟨_, _, hr, ?_, ?_, ?_, fun k cs t fr hk ht => ?_⟩
  ·refine ⟨g, off, cap, cur.setIfInBounds (off + xs.length) (.int .i64 x), by simp, h2, ?_, by simpa using h4, fun j hj => ?_, by simpa using hroom, h7⟩
   ·rw [hsz, Nat.mul_one]
    show ((w.alloc (.cells #[.int .i64 x] 3)).setCells g (off + xs.length) [.int .i64 x]).heap[g]? = _
    exact block_set h3'
   ·simp only [List.length_append, List.length_singleton] at hj
    by_cases hjl : j < xs.length
    ·rw [List.getElem_append_left hjl, Array.getElem?_setIfInBounds_ne (by omega)]
     exact h5 j hjl
    ·obtain rfl : j = xs.length := by omega
     rw [Array.getElem?_setIfInBounds_self_of_lt (by omega)]
     simp
  ·rw [hsz, Nat.mul_one]
   exact ((Below.refl _ _).alloc hbase _).setCell (p := ⟨g, off + xs.length, none⟩) h2 _
  ·rw [hsz, Nat.mul_one]
   exact (KeepsOthers.alloc _ _).trans (KeepsOthers.setCell _ _ _)
  ·have hkl := (Array.getElem?_eq_some_iff.1 hk).1
   rw [hsz, Nat.mul_one]
   refine (setCell_ne _ (fun e => ?_)).trans ((Below.heap_alloc _ _ k hkl).trans hk)
   rw [e, h3] at hk
   exact ht (Obj.cells.inj (Option.some.inj hk)).2.1.symm
 ·have hcells : ∀ j u, (ints xs)[j]? = some u → (w.alloc (.cells #[.int .i64 x] 3)).cell? ((⟨g, off, none⟩ : Addr).add j) = some u := fun j u hj => by
   have hj2 : j < xs.length := by
    have := (List.getElem?_eq_some_iff.1 hj).1
    simpa [ints] using this
   have hu : u = .int .i64 xs[j] := by simpa [ints, hj2] using hj.symm
   subst hu
   rw [add_lit]
   simp only [World.cell?, h3']
   simpa using h5 j hj2
  have hr := run_append_grow (P := Tryz.prog) (w.alloc (.cells #[.int .i64 x] 3)) 25 25 3 i (.int .i64 0) intsl_u hi hz ⟨g, off, none⟩ xs.length cap (ints xs) (by rw [hsz, ints_length, Nat.mul_one]) hcells ⟨w.heap.size, 0, none⟩ 1 1 [.int .i64 x] (by rw [hsz]; rfl) (cell_one_new _ _ _) (by omega) (by omega) (growslice_fits (by omega) (by rw [hby]; omega))
  have hge := grownCap_ge (w.alloc (.cells #[.int .i64 x] 3)) (xs.length + 1) cap 3
  have hcm := grownCap_le_maxLen (w.alloc (.cells #[.int .i64 x] 3)) (xs.length + 1) cap 3 (by simp [maxLen]; omega)
  refine ⟨_, _, hr, ?_, ?_, ?_, fun k cs t fr hk ht => ?_⟩
  ·refine ⟨_, 0, _, _, by simp, ?_, heap_alloc_new _ _, ?_, fun j hj => ?_, by simpa using hge, hcm⟩
   ·simp <;> omega
   ·simp only [Nat.zero_add, Array.size_append, size_zeroCells, List.size_toArray, ints_length, List.length_cons, List.length_nil]
    simp [Value.cells]
    omega
   ·simp only [List.length_append, List.length_singleton] at hj
    rw [Nat.zero_add, Array.getElem?_append_left (by simp [ints]; omega)]
    by_cases hjl : j < xs.length
    ·rw [Array.getElem?_append_left (by simp [ints]; omega), List.getElem_append_left hjl]
     simp [ints, hjl]
    ·obtain rfl : j = xs.length := by omega
     rw [Array.getElem?_append_right (by simp [ints])]
     simp [ints]
  ·exact (((Below.refl _ _).alloc hbase _).drew).alloc (by simp; omega) _
  ·exact ((KeepsOthers.alloc _ _).trans (KeepsOthers.drew _)).trans (KeepsOthers.alloc _ _)
  ·have hkl := (Array.getElem?_eq_some_iff.1 hk).1
   exact (Below.heap_alloc _ _ k (by simp; omega)).trans ((Below.heap_alloc w _ k hkl).trans hk)
abbrev Step := Nat × Int
/-- The search: what is seen, by which step, what is still to be looked at. -/
structure PS where
 seen : Int → Bool
 by_ : Int → Option Step
 row : List Int
def setAt {β : Type} (f : Int → Option β) (p : Int) (v : β) : Int → Option β := fun q => if q = p then some v else f q
/-- One arc, looked at from v: forwards, then backwards. -/
def fwd (v : Int) (a : Arc) (xi : Int) (i : Nat) (s : PS) : PS :=
 if a.from_ = v ∧ s.seen a.to_ = false ∧ xi < a.hi then ⟨withP s.seen a.to_, setAt s.by_ a.to_ (i, 1), s.row ++ [a.to_]⟩ else s
def bwd (v : Int) (a : Arc) (xi : Int) (i : Nat) (s : PS) : PS :=
 if a.to_ = v ∧ s.seen a.from_ = false ∧ a.lo < xi then ⟨withP s.seen a.from_, setAt s.by_ a.from_ (i, -1), s.row ++ [a.from_]⟩ else s
def look1 (L : List Arc) (x : List Int) (v : Int) (skip : Int) (i : Nat) (s : PS) : PS :=
 if (i : Int) = skip then s else
  match L[i]?, x[i]? with
  | some a, some xi => bwd v a xi i (fwd v a xi i s)
  | _, _ => s
def scanF (L : List Arc) (x : List Int) (v : Int) (skip : Int) : Nat → PS → PS
 | 0, s => s
 | k + 1, s => look1 L x v skip k (scanF L x v skip k s)
/-- The steps, from the end back to the beginning. -/
def traceF (L : List Arc) (start : Int) (by_ : Int → Option Step) : Nat → Int → List Step → Option (List Step)
 | 0, _, _ => none
 | n + 1, v, out => if v = start then some out else
  match L[((by_ v).getD (0, 0)).1]? with
  | none => none
  | some a => traceF L start by_ n (if 0 < ((by_ v).getD (0, 0)).2 then a.from_ else a.to_) (out ++ [(by_ v).getD (0, 0)])
/-- A way to a node that is wanted, with this node, or what is seen. -/
inductive PathR where
 | way (steps : List Step) (last : Int)
 | lost (seen : Int → Bool)
def pathF (L : List Arc) (x : List Int) (start : Int) (want : Int → Bool) (skip : Int) : Nat → PS → Option PathR
 | 0, _ => none
 | n + 1, s => match s.row with
  | [] => some (.lost s.seen)
  | v :: rest => if want v then (traceF L start s.by_ 400 v []).map fun o => .way o v else if 1000 < rest.length then none else pathF L x start want skip n (scanF L x v skip L.length ⟨s.seen, s.by_, rest⟩)
def pathOf (L : List Arc) (x : List Int) (start : Int) (want : Int → Bool) (skip : Int) : Option PathR := pathF L x start want skip 2000 ⟨withP (fun _ => false) start, fun _ => none, [start]⟩
theorem fwd_row (v : Int) (a : Arc) (xi : Int) (i : Nat) (s : PS) : (fwd v a xi i s).row.length ≤ s.row.length + 1 := by
 unfold fwd
 split <;> simp
theorem bwd_row (v : Int) (a : Arc) (xi : Int) (i : Nat) (s : PS) : (bwd v a xi i s).row.length ≤ s.row.length + 1 := by
 unfold bwd
 split <;> simp
theorem traceF_len {L : List Arc} {start : Int} {by_ : Int → Option Step} : ∀ {n : Nat} {v : Int} {out o : List Step}, traceF L start by_ n v out = some o → out.length ≤ o.length ∧ o.length ≤ out.length + n
 | 0, _, _, _, h => by cases h
 | n + 1, v, out, o, h => by
  unfold traceF at h
  split at h
  ·cases h; omega
  ·split at h
   ·cases h
   ·have := traceF_len h
    simp at this
    omega
/-- How much can be led along steps. -/
def roomF (L : List Arc) (x : List Int) : List Step → Int → Option Int
 | [], m => some m
 | s :: l, m => match L[s.1]?, x[s.1]? with
  | some a, some xi => roomF L x l (if 0 < s.2 then min m (a.hi - xi) else min m (xi - a.lo))
  | _, _ => none
def okN (v : Int) : Bool := decide (-1000000000000000 ≤ v) && decide (v ≤ 1000000000000000)
def leadF (n : Int) : List Step → List Int → Option (List Int)
 | [], x => some x
 | s :: l, x => match x[s.1]? with
  | some xi => if okN (xi + s.2 * n) = true ∧ -1 ≤ s.2 ∧ s.2 ≤ 1 then leadF n l (x.set s.1 (xi + s.2 * n)) else none
  | _ => none
section
open Go.RowKit
abbrev evS : Step → Value := fun s => .agg #[.int .i64 s.1, .int .i64 s.2]
theorem mapS_u : Tryz.prog.underlying 172 = some (.map 3 174) := by kernel_rfl
theorem step_zero (w : World) : (zeroValue 174).run Tryz.prog w = .ok (evS (0, 0)) w := by kernel_rfl
theorem MapOf.others {β : Type} {w w' : World} {r : Nat} {ev : β → Value} {f : Int → Option β} (h : MapOf w r ev f) (k : KeepsOthers w w') : MapOf w' r ev f := by
 have h' := h
 obtain ⟨m, ⟨es, c, h1, _⟩, _⟩ := h'
 exact h.same ((k.same _ _ h1 rfl).trans h1.symm)
theorem MapOf.not_cells {β : Type} {w : World} {r : Nat} {ev : β → Value} {f : Int → Option β} (h : MapOf w r ev f) : ∀ cur t fr, w.heap[r]? ≠ some (.cells cur t fr) := fun cur t fr e => by
 obtain ⟨m, ⟨es, c, h1, _⟩, _⟩ := h
 rw [h1] at e
 cases e
/-- What was asked last is noted. -/
def noted (lb : Option Nat) (v : Int) (w : World) : World := match lb with
 | none => w
 | some b => w.setCell ⟨b, 0, none⟩ (.int .i64 v)
structure PM (w0 : World) (lb : Option Nat) (wr : World) (rb rs : Nat) (s : PS) (v : Value) : Prop where
 near : w0.grownBy wr lb
 q : Queue wr w0.heap.size v s.row
 mb : MapOf wr rb evS s.by_
 ms : MapOf wr rs Value.bool (setF s.seen)
 hb : w0.heap.size ≤ rb
 hs : w0.heap.size ≤ rs
 ne : rb ≠ rs
 last : ∀ b, lb = some b → b < w0.heap.size ∧ ∃ u, Boxed wr b 3 u
section
variable {w0 wr w' : World} {lb : Option Nat} {rb rs : Nat} {s : PS} {v : Value}
theorem near_below {w0 wr w' : World} {lb : Option Nat} (h : w0.grownBy wr lb) {n : Nat} (hn : w0.heap.size ≤ n) (k : Below n wr w') : w0.grownBy w' lb :=
 ⟨k.os.trans h.os, k.tape.trans h.tape, k.output.trans h.output, Nat.le_trans h.size k.size, fun i hi hne => (k.block i (by omega)).trans (h.block i hi hne)⟩
theorem PM.below (h : PM w0 lb wr rb rs s v) (k : Below wr.heap.size wr w') : PM w0 lb w' rb rs s v :=
 ⟨near_below h.near h.near.size k, h.q.below k, h.mb.below k, h.ms.below k, h.hb, h.hs, h.ne, fun b e => ⟨(h.last b e).1, by
  obtain ⟨u, hu⟩ := (h.last b e).2
  exact ⟨u, hu.kept (grown_of_below k) (by simp)⟩⟩⟩
theorem PM.drew (h : PM w0 lb wr rb rs s v) : PM w0 lb wr.drew rb rs s v := h.below (Below.refl _ _).drew
theorem PM.size (h : PM w0 lb wr rb rs s v) : w0.heap.size ≤ wr.heap.size := h.near.size
theorem PM.pop {x : Int} {rest : List Int} {seen : Int → Bool} {by_ : Int → Option Step} (h : PM w0 lb wr rb rs ⟨seen, by_, x :: rest⟩ v) :
  ∃ g off cap, v = .slice (some ⟨g, off, none⟩) (rest.length + 1) (cap + 1) ∧ wr.cell? ⟨g, off, none⟩ = some (.int .i64 x) ∧ rest.length ≤ cap ∧ PM w0 lb wr rb rs ⟨seen, by_, rest⟩ (.slice (if cap = 0 then some ⟨g, off, none⟩ else some ⟨g, off + 1, none⟩) rest.length cap) := by
 obtain ⟨g, off, cap, h1, h2, h3, h4⟩ := h.q.form
 exact ⟨g, off, cap, h1, h2, h3, ⟨h.near, h4, h.mb, h.ms, h.hb, h.hs, h.ne, h.last⟩⟩
theorem PM.boxed (h : PM w0 lb wr rb rs s v) {w' : World} {q : Nat} (hg : wr.grownBy w' (some q)) (hq : w0.heap.size ≤ q) : ∀ b, lb = some b → b < w0.heap.size ∧ ∃ u, Boxed w' b 3 u := fun b e => by
 obtain ⟨hl, u, hu⟩ := h.last b e
 exact ⟨hl, u, hu.kept hg (fun e' => by cases e'; omega)⟩
theorem PM.near_map (h : PM w0 lb wr rb rs s v) {w' : World} {q : Nat} (hg : wr.grownBy w' (some q)) (hq : w0.heap.size ≤ q) : w0.grownBy w' lb :=
 near_below h.near (Nat.le_refl _) ((Below.refl _ wr).grown hg h.size (fun k e => by cases e; exact hq))
theorem PM.putS (h : PM w0 lb wr rb rs s v) (p : Int) : ∃ w', (Instr.mapUpdate 69 (.map (some rs)) (.int .i64 p) (.bool true)).run Tryz.prog wr = .ok () w' ∧ PM w0 lb w' rb rs ⟨withP s.seen p, s.by_, s.row⟩ v ∧ Calm wr w' ∧ Below w0.heap.size wr w' := by
 obtain ⟨w', h1, h2, h3⟩ := h.ms.put mapB_u p true
 rw [← setF_with] at h2
 exact ⟨w', h1, ⟨h.near_map h3 h.hs, h.q.grown h3 (fun cur => h.ms.not_cells _ _ _), h.mb.same (h3.block rb h.mb.lt (fun e => h.ne (by cases e; rfl))), h2, h.hb, h.hs, h.ne, h.boxed h3 h.hs⟩, Calm.of_put h.ms h3, (Below.refl _ wr).grown h3 h.size (fun k e => by cases e; exact h.hs)⟩
theorem PM.putB (h : PM w0 lb wr rb rs s v) (p : Int) (st : Step) : ∃ w', (Instr.mapUpdate 172 (.map (some rb)) (.int .i64 p) (evS st)).run Tryz.prog wr = .ok () w' ∧ PM w0 lb w' rb rs ⟨s.seen, setAt s.by_ p st, s.row⟩ v ∧ Calm wr w' ∧ Below w0.heap.size wr w' := by
 obtain ⟨w', h1, h2, h3⟩ := h.mb.put mapS_u p st
 exact ⟨w', h1, ⟨h.near_map h3 h.hb, h.q.grown h3 (fun cur => h.mb.not_cells _ _ _), h2, h.ms.same (h3.block rs h.ms.lt (fun e => h.ne (by cases e; rfl))), h.hb, h.hs, h.ne, h.boxed h3 h.hb⟩, Calm.of_put h.mb h3, (Below.refl _ wr).grown h3 h.size (fun k e => by cases e; exact h.hb)⟩
theorem PM.push (h : PM w0 lb wr rb rs s v) (x : Int) (hl : s.row.length ≤ 100000) :
  ∃ v' w', (Builtin.append_ #[25, 25] 25 #[v, .slice (some ⟨wr.heap.size, 0, none⟩) 1 1]).run Tryz.prog (wr.alloc (.cells #[.int .i64 x] 3)) = .ok v' w' ∧ PM w0 lb w' rb rs ⟨s.seen, s.by_, s.row ++ [x]⟩ v' ∧ ∀ (k : Nat) (cs : Array Value) (t : TypeId) (fr : Nat × Nat), wr.heap[k]? = some (Obj.cells cs t fr) → t ≠ 3 → w'.heap[k]? = some (Obj.cells cs t fr) := by
 obtain ⟨v', w', h1, h2, h3, h4, h5⟩ := h.q.push x hl h.size
 exact ⟨v', w', h1, ⟨near_below h.near (Nat.le_refl _) h3, h2, h.mb.others h4, h.ms.others h4, h.hb, h.hs, h.ne, fun b e => ⟨(h.last b e).1, by
  obtain ⟨hl, u, hu⟩ := h.last b e
  exact ⟨u, (h3.block b hl).trans hu⟩⟩⟩, h5⟩
theorem PM.look (h : PM w0 lb wr rb rs s v) (p : Int) : (Instr.lookup 69 (.map (some rs)) (.int .i64 p) false).run Tryz.prog wr = .ok (.bool (s.seen p)) wr := by
 rw [← setF_orZ]
 exact h.ms.look mapB_u (.bool false) (bool_zeroV _) p
theorem PM.lookB (h : PM w0 lb wr rb rs s v) (p : Int) : (Instr.lookup 172 (.map (some rb)) (.int .i64 p) false).run Tryz.prog wr = .ok (evS ((s.by_ p).getD (0, 0))) wr := by
 have := h.mb.look mapS_u (evS (0, 0)) (step_zero wr) p
 rw [this]
 cases s.by_ p <;> rfl
theorem PM.noted (h : PM w0 lb wr rb rs s v) (x : Int) : PM w0 lb (noted lb x wr) rb rs s v := by
 rcases lb with _ | b
 ·exact h
 ·obtain ⟨hl, u, hu⟩ := h.last b rfl
  have hk : KeepsOthers wr (wr.setCell ⟨b, 0, none⟩ (.int .i64 x)) := KeepsOthers.setCell _ _ _
  refine ⟨⟨h.near.os, h.near.tape, h.near.output, by show _ ≤ (wr.setCell _ _).heap.size; rw [World.size_setCell]; exact h.near.size, fun k hk hne => (setCell_ne wr (fun e => hne (by rw [e]))).trans (h.near.block k hk hne)⟩, ?_, h.mb.others hk, h.ms.others hk, h.hb, h.hs, h.ne, fun b' e => by
   cases e
   exact ⟨hl, _, hu.set _⟩⟩
  exact h.q.same fun g hg _ => setCell_ne wr (by omega)
theorem noted_last (h : PM w0 lb wr rb rs s v) (x : Int) : ∀ b, lb = some b → Boxed (Go.Proofs.YtfaoillnakhejaaGreat.noted lb x wr) b 3 (.int .i64 x) := fun b e => by
 obtain ⟨hl, u, hu⟩ := h.last b e
 subst e
 exact hu.set _
end
/-- The memory when the search begins. -/
theorem pm_start {w0 : World} {lb : Option Nat} (start : Int) (hlast : ∀ b, lb = some b → b < w0.heap.size ∧ ∃ u, Boxed w0 b 3 u) {W : World} {rb rs : Nat} (hb : Below w0.heap.size w0 W) (h1 : MapOf W rb evS fun _ => none) (h2 : MapOf W rs Value.bool (setF (withP (fun _ => false) start))) (hrb : w0.heap.size ≤ rb) (hrs : w0.heap.size ≤ rs) (hne : rb ≠ rs) :
  PM w0 lb (W.alloc (.cells #[.int .i64 start] 3)) rb rs ⟨withP (fun _ => false) start, fun _ => none, [start]⟩ (.slice (some ⟨W.heap.size, 0, none⟩) 1 1) := by
 have hba : Below W.heap.size W (W.alloc (.cells #[.int .i64 start] 3)) := (Below.refl _ _).alloc (Nat.le_refl _) _
 have hbb := hb.trans (hba.mono hb.size)
 refine ⟨⟨hbb.os, hbb.tape, hbb.output, hbb.size, fun k hk _ => hbb.block k hk⟩, ?_, h1.below hba, h2.below hba, hrb, hrs, hne, fun b e => ⟨(hlast b e).1, ?_⟩⟩
 ·obtain ⟨g, off, cap, cur, h3, h4, h5⟩ := Queue.one W start
  exact ⟨g, off, cap, cur, h3, Nat.le_trans hb.size h4, h5⟩
 ·obtain ⟨hl, u, hu⟩ := hlast b e
  exact ⟨u, (hbb.block b hl).trans hu⟩
/-! ### Steps in memory -/
def StepIs (w : World) (b : Nat) (s : Step) : Prop := w.heap[b]? = some (.cells #[.int .i64 s.1, .int .i64 s.2] 174 (0, 0))
theorem step_info : (Tryz.prog.info? 174).map (·.size) = some 2 := by kernel_rfl
theorem StepIs.lt {w : World} {g : Nat} {s : Step} (h : StepIs w g s) : g < w.heap.size := (Array.getElem?_eq_some_iff.1 h).1
theorem StepIs.below {w w' : World} {g : Nat} {s : Step} (h : StepIs w g s) (hb : Below w.heap.size w w') : StepIs w' g s := (hb.block g h.lt).trans h
theorem StepIs.at_ {w : World} {g : Nat} {s : Step} (h : StepIs w g s) : w.cell? ⟨g, 0, none⟩ = some (.int .i64 s.1) ∧ w.cell? ⟨g, 1, none⟩ = some (.int .i64 s.2) := by
 unfold StepIs at h
 simp [World.cell?, h]
theorem load_step {ops : Array Oper} {rest : List Oper} {o : Oper} {a : Act} {w : World} {Q : Exit → Act → World → Prop} (hgd : o.guard = none) (x : Operand) (ho : o.op = .load 174 x)
  (g : Nat) (hx : a.eval x = .pointer (some ⟨g, 0, none⟩)) {q : Step} (hg : StepIs w g q)
  (h : wpList Tryz.prog ops Q rest (a.put o.dst (evS q)) w) : wpList Tryz.prog ops Q (o :: rest) a w :=
 wpList_load_row hgd _ x ho g hx _ #[.int .i64 q.1, .int .i64 q.2] (0, 0) _ hg Tryz.underlying174 rfl step_info h
theorem store_step_new {ops : Array Oper} {rest : List Oper} {o : Oper} {a : Act} {w : World} {Q : Exit → Act → World → Prop} (hgd : o.guard = none) (x y : Operand) (ho : o.op = .store 174 x y)
  {g : Nat} (hx : a.eval x = .pointer (some ⟨g, 0, none⟩)) (hgw : g = w.heap.size) {q : Step} (hy : a.eval y = evS q) {zs : Array Value} (hs : zs.size = 2)
  (h : ∀ W, StepIs W g q → Below w.heap.size w W → w.heap.size < W.heap.size → wpList Tryz.prog ops Q rest (a.put o.dst undef) W) : wpList Tryz.prog ops Q (o :: rest) a (w.alloc (.cells zs 174)) := by
 subst hgw
 refine wpList_store_row hgd _ x y ho w.heap.size #[.int .i64 q.1, .int .i64 q.2] hx hy _ zs (heap_alloc_new w _) step_info (hs.trans rfl) (by simp [Value.oneCell']) (h _ (setRow_heap _ _ _ _ _ _ (heap_alloc_new w _)) (below_setRow ((Below.refl _ _).alloc (Nat.le_refl _) _) (Nat.le_refl _) _) ?_)
 simp
theorem stepA_info : ∃ i z, Tryz.prog.info? 174 = some i ∧ i.zero = some z ∧ i.size = 2 ∧ i.bytes = 16 ∧ z.cells.size = 2 := by
 have h : (Tryz.prog.info? 174).map (fun i => (i.zero.map (·.cells.size), i.size, i.bytes)) = some (some 2, 2, 16) := by kernel_rfl
 rcases hi : Tryz.prog.info? 174 with _ | i
 ·rw [hi] at h; cases h
 ·rw [hi] at h
  simp only [Option.map_some, Option.some.injEq, Prod.mk.injEq] at h
  obtain ⟨h1, h2, h3⟩ := h
  rcases hz : i.zero with _ | z
  ·rw [hz] at h1; cases h1
  ·rw [hz] at h1
   simp only [Option.map_some, Option.some.injEq] at h1
   exact ⟨i, z, rfl, hz, h2, h3, h1⟩
theorem stepsl_u : Tryz.prog.underlying 154 = some (.slice 174) := by kernel_rfl
theorem build_step {ops : Array Oper} {rest : List Oper} {o : Oper} {a : Act} {w : World} {Q : Exit → Act → World → Prop} (hgd : o.guard = none) (x : Operand) (ho : o.op = .buildSlice 154 1 #[(0, x)])
  {r : Step} (hx : a.eval x = evS r) (h : wpList Tryz.prog ops Q rest (a.put o.dst (.slice (some ⟨w.heap.size, 0, none⟩) 1 1)) (w.alloc (.cells #[.int .i64 r.1, .int .i64 r.2] 174))) : wpList Tryz.prog ops Q (o :: rest) a w := by
 obtain ⟨i, z, h1, h2, h3, h4, h5⟩ := stepA_info
 refine wpList_buildSlice hgd _ _ 1 #[(0, x)] ho #[.int .i64 r.1, .int .i64 r.2] i z stepsl_u h1 h2 (by omega) (by omega) ?_ h
 rw [h3]
 have h6 := Great.fill_whole (s := 2) (by omega) [evS r] ((Array.range (1 * 2)).map (z.cells[· % z.cells.size]!)) (by intro v hv; rw [List.mem_singleton] at hv; subst hv; rfl) (by simp)
 have h7 : ((#[(0, x)] : Array (Nat × Operand)).map fun (i, x) => (i, a.eval x)).toList = (([evS r].zipIdx 0).map fun x => (x.2, x.1)) := by
  simp [hx]
 rw [h7, h6]
 simp [Value.cells]
def flatS (l : List Step) : List Value := l.flatMap fun s => [.int .i64 s.1, .int .i64 s.2]
theorem flatS_snoc (l : List Step) (s : Step) : flatS (l ++ [s]) = flatS l ++ [.int .i64 s.1, .int .i64 s.2] := by simp [flatS]
theorem app_step {w : World} {base : Nat} {v : Value} {l : List Step} (s : Step) (hown : w.ownsRow base 174 2 v l.length (flatS l)) (hl : l.length ≤ 1000) (hbase : base ≤ w.heap.size) :
  ∃ v' w', (Builtin.append_ #[154, 154] 154 #[v, .slice (some ⟨w.heap.size, 0, none⟩) 1 1]).run Tryz.prog (w.alloc (.cells #[.int .i64 s.1, .int .i64 s.2] 174)) = .ok v' w' ∧
   w'.ownsRow base 174 2 v' (l ++ [s]).length (flatS (l ++ [s])) ∧ Below base w w' ∧ KeepsOthers w w' ∧ ∀ k, k < w.heap.size → v.ownBlock ≠ some k → w'.heap[k]? = w.heap[k]? := by
 obtain ⟨i, z, h1, h2, h3, h4, h5⟩ := stepA_info
 obtain ⟨v', w', hr, ho, hg⟩ := run_app (P := Tryz.prog) (w := w.alloc (.cells #[.int .i64 s.1, .int .i64 s.2] 174)) 154 (c := 1) (A := some ⟨w.heap.size, 0, none⟩) (news := [.int .i64 s.1, .int .i64 s.2]) (size := 2) stepsl_u h1 h2 h3 h4 h5 (by omega) (hown.alloc _) (m := 1) rfl
  (fun _ => ⟨w.heap.size, 0, rfl, fun j u hj => by rw [Nat.zero_add, cell_new]; simpa using hj⟩) (fun u hu => by simp at hu; rcases hu with rfl | rfl <;> rfl) (by simp [maxLen]; omega) (by omega) (by simp; omega)
 refine ⟨v', w', hr, ?_, ((Below.refl _ _).alloc hbase _).grown hg (by simp; omega) (fun g e => (hown.lt g e).1), (KeepsOthers.alloc _ _).trans (KeepsOthers.of_grownBy hg fun j o ej hj => ?_), fun k hk hne => (hg.block k (by simp; omega) (fun e => hne e.symm)).trans (Below.heap_alloc _ _ k hk)⟩
 ·rw [flatS_snoc, List.length_append]
  exact ho
 ·rcases (hown.alloc (.cells #[.int .i64 s.1, .int .i64 s.2] 174)).2 with ⟨rfl, _⟩ | ⟨g, cap, cur, rfl, _, hgb, _⟩
  ·simp [Value.ownBlock] at ej
  ·obtain rfl : g = j := by simpa [Value.ownBlock] using ej
   rw [hgb] at hj; cases hj; rfl
/-- What is kept while the steps are gathered. -/
structure TB (w0 : World) (lb : Option Nat) (wr : World) (rb : Nat) (by_ : Int → Option Step) (last : Int) : Prop where
 near : w0.grownBy wr lb
 mb : MapOf wr rb evS by_
 last : ∀ b, lb = some b → b < w0.heap.size ∧ Boxed wr b 3 (.int .i64 last)
theorem TB.on {w0 wr w' : World} {lb : Option Nat} {rb : Nat} {by_ : Int → Option Step} {last : Int} (h : TB w0 lb wr rb by_ last) (k : Below w0.heap.size wr w') (o : KeepsOthers wr w') : TB w0 lb w' rb by_ last :=
 ⟨near_below h.near (Nat.le_refl _) k, h.mb.others o, fun b e => ⟨(h.last b e).1, (k.block b (h.last b e).1).trans (h.last b e).2⟩⟩
theorem TB.below {w0 wr w' : World} {lb : Option Nat} {rb : Nat} {by_ : Int → Option Step} {last : Int} (h : TB w0 lb wr rb by_ last) (k : Below wr.heap.size wr w') : TB w0 lb w' rb by_ last :=
 ⟨near_below h.near h.near.size k, h.mb.below k, fun b e => ⟨(h.last b e).1, (k.block b (h.last b e).2.lt).trans (h.last b e).2⟩⟩
theorem TB.lookB {w0 wr : World} {lb : Option Nat} {rb : Nat} {by_ : Int → Option Step} {last : Int} (h : TB w0 lb wr rb by_ last) (p : Int) : (Instr.lookup 172 (.map (some rb)) (.int .i64 p) false).run Tryz.prog wr = .ok (evS ((by_ p).getD (0, 0))) wr := by
 have := h.mb.look mapS_u (evS (0, 0)) (step_zero wr) p
 rw [this]
 cases by_ p <;> rfl
theorem PM.trace {w0 wr : World} {lb : Option Nat} {rb rs : Nat} {s : PS} {v : Value} (h : PM w0 lb wr rb rs s v) {last : Int} (hl : ∀ b, lb = some b → Boxed wr b 3 (.int .i64 last)) : TB w0 lb wr rb s.by_ last :=
 ⟨h.near, h.mb, fun b e => ⟨(h.last b e).1, hl b e⟩⟩
end
def moveB (r : Rep) : Bool := decide (r.kind = 2 ∨ r.kind = 3)
def sideQ (seen : Int → Bool) (r : Rep) : Bool := moveB r && (seen r.id != seen 0)
def sideL (C : List Rep) (seen : Int → Bool) : List Int := (C.filter (sideQ seen)).map (·.id)
/-- The moves of some nodes, or the other ones, in ascending order. -/
def sideF (C : List Rep) (seen : Int → Bool) : List Int := sortL (sideL C seen)
theorem sideL_snoc (C : List Rep) (seen : Int → Bool) (k : Nat) (h : k < C.length) : sideL (C.take (k + 1)) seen = sideL (C.take k) seen ++ if sideQ seen C[k] then [C[k].id] else [] := by
 unfold sideL
 rw [List.take_succ_eq_append_getElem h, List.filter_append, List.map_append]
 cases hq : sideQ seen C[k] <;> simp [hq]
theorem sideL_len (C : List Rep) (seen : Int → Bool) : (sideL C seen).length ≤ C.length := by
 unfold sideL
 rw [List.length_map]
 exact List.length_filter_le _ _
set_option maxHeartbeats 16000000 in
theorem side_any {w : World} {bb s r1 r2 r3 r4 : Nat} {A : Option Addr} {cap : Nat} {C : List Ent} {ids : List Int} (h : LooksAt w bb s r1 r2 r3 r4 A cap C ids) (hcl : C.length ≤ 210) {r : Nat} {seen : Int → Bool} (hm : MapOf w r Value.bool (setF seen)) :
  Calls Tryz.prog 128 #[.pointer (some ⟨bb, 0, none⟩), .map (some r)] w fun e w' => ∃ v, e = .returned v ∧ w'.ownsRow w.heap.size 3 1 v (sideF (reps C) seen).length (ints (sideF (reps C) seen)) ∧ Below w.heap.size w w' := by
 have HL := hid h
 have HM := hid hm
 obtain ⟨c0, _, _⟩ := h.cells
 obtain ⟨s0, _, _, _⟩ := h.store.cell
 clear h hm
 go_enter Tryz.func128, Tryz.ntmps128
 go_upto_region 3 with fail
 clear c0 s0
 have hrl : (reps C).length = C.length := by simp [reps]
 have HRL := hid hrl
 clear hrl
 go_loopg [5, 17] (C.length) (fun g ov iv wr => ∃ (k : Nat), k ≤ C.length ∧ g = C.length - k ∧ iv = .int .i64 k ∧ Hid (wr.ownsRow w.heap.size 3 1 ov (sideL ((reps C).take k) seen).length (ints (sideL ((reps C).take k) seen))) ∧ Hid (Below w.heap.size w wr))
 case atStart => exact ⟨0, by omega, by omega, rfl, hid (by simpa [sideL, ints] using World.ownsRow_nil _ _ _ _), hid (Below.refl _ _)⟩
 case round =>
  obtain ⟨k, hk, hgk, rfl, how, hbw⟩ := hrel
  by_cases hkl : k < C.length
  ·obtain ⟨b, off, hAe, hc⟩ := (HL.out.ents.below hbw.out).rows (by omega)
   subst hAe
   have hck := hc k hkl
   have hsn := sideL_snoc (reps C) seen k (by rw [HRL.out]; exact hkl)
   have hge : (reps C)[k]'(by rw [HRL.out]; exact hkl) = C[k].1 := by simp [reps]
   rw [hge] at hsn
   have hll := sideL_len ((reps C).take k) seen
   have hll2 : ((reps C).take k).length ≤ 210 := by rw [List.length_take, HRL.out]; omega
   obtain ⟨⟨x, P, c⟩, hx⟩ : ∃ y, C[k] = y := ⟨_, rfl⟩
   rw [hx] at hck hsn
   dsimp only at hck hsn
   obtain ⟨D, hD⟩ : ∃ D, sideL ((reps C).take k) seen = D := ⟨_, rfl⟩
   rw [hD] at hsn how hll
   have HCK := hid hck
   have HSN := hid hsn
   have hdl : D.length ≤ 210 := by omega
   have i0 : (0 : Int) ≤ k := by omega
   have i1 : (k : Int) < C.length := by omega
   have hsq : sideQ seen x = (moveB x && (seen x.id != seen 0)) := rfl
   clear hc hck hsn hge hx hD hll hll2
   go_upto_region 5 with (first | refine load_rep_mid rfl _ rfl _ _ rfl HCK.out ?_ | (refine store_rep_new rfl _ _ rfl rfl rfl (r := x) rfl rfl ?_; intro W2 hbx2 hb2 hlt2; have HX2 := hid hbx2; have HB2 := hid (hbw.out.trans (hb2.mono hbw.out.size)); have HO2 := hid (own_below how.out hb2); clear hbx2 hb2))
   obtain ⟨x0, _, _, x3, _⟩ := HX2.out.at_
   have hlk1 := fun w' (hk : Below W2.heap.size W2 w') => ((HM.out.below HB2.out).below hk).look mapB_u (.bool false) (bool_zeroV _) x.id
   have hlk2 := fun w' (hk : Below W2.heap.size W2 w') => ((HM.out.below HB2.out).below hk).look mapB_u (.bool false) (bool_zeroV _) 0
   have HK1 := hid hlk1
   have HK2 := hid hlk2
   clear hlk1 hlk2
   have hlk1 := HK1.out W2 (Below.refl _ _)
   have hlk2 := HK2.out W2 (Below.refl _ _)
   simp only [setF_orZ] at hlk1 hlk2
   obtain ⟨mv, hmv⟩ : ∃ mv, moveB x = mv := ⟨_, rfl⟩
   rw [hmv] at hsq
   have HMV := hid hmv
   have HSQ := hid hsq
   clear hmv hsq
   go_frame
   go_cut [8] from 21 to 29 (fun r wx => r = .bool mv ∧ W2 = wx)
   case first =>
    have hmv : mv = decide (x.kind = 2 ∨ x.kind = 3) := HMV.out.symm
    by_cases k2 : x.kind = 2
    ·have d2 : (x.kind == 2) = true := beq_iff_eq.2 k2
     have HZ : Hid (mv = true) := hid (by rw [hmv]; simp [k2])
     clear hmv k2
     go_wp2_with fail
     go_meet
     case rel => exact ⟨by rw [HZ.out], rfl⟩
    ·have d2 : (x.kind == 2) = false := beq_eq_false_iff_ne.2 k2
     by_cases k3 : x.kind = 3
     ·have d3 : (x.kind == 3) = true := beq_iff_eq.2 k3
      have HZ : Hid (mv = true) := hid (by rw [hmv]; simp [k3])
      clear hmv k2 k3
      go_wp2_with fail
      go_meet
      case rel => exact ⟨by rw [HZ.out], rfl⟩
     ·have d3 : (x.kind == 3) = false := beq_eq_false_iff_ne.2 k3
      have HZ : Hid (mv = false) := hid (by rw [hmv]; simp [k2, k3])
      clear hmv k2 k3
      go_wp2_with fail
      go_meet
      case rel => exact ⟨by rw [HZ.out], rfl⟩
   case rest =>
    obtain ⟨rfl, rfl⟩ := hcut
    rcases mv with _ | _
    ·have HSN2 : Hid (sideL ((reps C).take (k + 1)) seen = D) := hid (by rw [HSN.out, HSQ.out]; simp)
     clear hlk1 hlk2
     go_wp2_with fail
     go_roundg (C.length - (k + 1))
     case measure => omega
     case rel => exact ⟨k + 1, by omega, rfl, by go_num, by rw [HSN2.out]; exact HO2, HB2⟩
    ·rcases hsx : seen x.id with _ | _
     ·rcases hs0 : seen 0 with _ | _
      ·have HSN2 : Hid (sideL ((reps C).take (k + 1)) seen = D) := hid (by rw [HSN.out, HSQ.out]; simp [hsx, hs0])
       simp only [hsx, hs0] at hlk1 hlk2
       go_wp2_with fail
       go_roundg (C.length - (k + 1))
       case measure => omega
       case rel => exact ⟨k + 1, by omega, rfl, by go_num, by rw [HSN2.out]; exact HO2, HB2⟩
      ·have HSN2 : Hid (sideL ((reps C).take (k + 1)) seen = D ++ [x.id]) := hid (by rw [HSN.out, HSQ.out, hsx, hs0]; simp)
       simp only [hsx, hs0] at hlk1 hlk2
       obtain ⟨v4, w4, hr4, ho4, hb4⟩ := app_one x.id HO2.out (by omega) HB2.out.size
       obtain ⟨A4, k4, hv4, hx4⟩ := ownsRow.form ho4
       subst hv4
       have HR4 := hid hr4
       have HO4 := hid ho4
       have HB4 := hid (HB2.out.trans hb4)
       clear hr4 ho4 hb4 hx4
       have hln : (D ++ [x.id]).length = D.length + 1 := by simp
       rw [hln] at HR4
       have HLN := hid hln
       clear hln
       go_wp2_with (first | (at_builtin; refine wpList_app rfl rfl rfl rfl rfl HR4.out ?_))
       go_roundg (C.length - (k + 1))
       case measure => omega
       case rel => exact ⟨k + 1, by omega, rfl, by go_num, by rw [HSN2.out]; exact hid (by have := HO4.out; rw [HLN.out] at this ⊢; exact this), HB4⟩
     ·rcases hs0 : seen 0 with _ | _
      ·have HSN2 : Hid (sideL ((reps C).take (k + 1)) seen = D ++ [x.id]) := hid (by rw [HSN.out, HSQ.out, hsx, hs0]; simp)
       simp only [hsx, hs0] at hlk1 hlk2
       obtain ⟨v4, w4, hr4, ho4, hb4⟩ := app_one x.id HO2.out (by omega) HB2.out.size
       obtain ⟨A4, k4, hv4, hx4⟩ := ownsRow.form ho4
       subst hv4
       have HR4 := hid hr4
       have HO4 := hid ho4
       have HB4 := hid (HB2.out.trans hb4)
       clear hr4 ho4 hb4 hx4
       have hln : (D ++ [x.id]).length = D.length + 1 := by simp
       rw [hln] at HR4
       have HLN := hid hln
       clear hln
       go_wp2_with (first | (at_builtin; refine wpList_app rfl rfl rfl rfl rfl HR4.out ?_))
       go_roundg (C.length - (k + 1))
       case measure => omega
       case rel => exact ⟨k + 1, by omega, rfl, by go_num, by rw [HSN2.out]; exact hid (by have := HO4.out; rw [HLN.out] at this ⊢; exact this), HB4⟩
      ·have HSN2 : Hid (sideL ((reps C).take (k + 1)) seen = D) := hid (by rw [HSN.out, HSQ.out]; simp [hsx, hs0])
       simp only [hsx, hs0] at hlk1 hlk2
       go_wp2_with fail
       go_roundg (C.length - (k + 1))
       case measure => omega
       case rel => exact ⟨k + 1, by omega, rfl, by go_num, by rw [HSN2.out]; exact HO2, HB2⟩
  ·obtain rfl : k = C.length := by omega
   have ho2 := how.out
   rw [List.take_of_length_le (by rw [HRL.out]; omega)] at ho2
   have hll := sideL_len (reps C) seen
   rw [HRL.out] at hll
   have HSO := hid (sort_own ho2 (by omega))
   obtain ⟨A7, k7, hv7, hx1⟩ := ownsRow.form ho2
   subst hv7
   clear hx1 ho2 how
   go_wp2_with fail
   refine HSO.out.mono ?_
   rintro e w3 ⟨rfl, ho3, hb3⟩
   have HO3 := hid ho3
   have HB3 := hid hb3
   clear ho3 hb3 HSO
   go_wp2_with fail
   go_ret
   refine ⟨_, rfl, by unfold sideF; rw [sortL_length]; exact HO3.out, ?_⟩
   rcases HB3.out with rfl | ⟨g, cap, _, hg, hgr⟩
   ·exact hbw.out
   ·exact hbw.out.grown hgr hbw.out.size (fun k e => by cases e; exact hg)
end Go.Proofs.YtfaoillnakhejaaGreat
