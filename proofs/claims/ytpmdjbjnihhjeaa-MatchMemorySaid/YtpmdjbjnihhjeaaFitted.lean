/- fitted, Barred and Fixed (the program). -/
import Derived.Test.YtpmdjbjnihhjeaaWithout
import Derived.Test.YtpmdjbjnihhjeaaDrop
import Derived.Test.YtpmdjbjnihhjeaaThrough
namespace Go.Proofs.Ytpmdjbjnihhjeaa
open Go.RowKit
set_option linter.unusedSimpArgs false

def Board.refit (b : Board) (f : Nat) (L : List Int) : Board := ⟨b.finds, b.slots, b.fits.set f L⟩
/-- A call returns a board in new memory, and an error. -/
def MadeGot (k : Int) (d : Board) (w : World) (e : Ending) (w' : World) : Prop :=
  Below w.heap.size w w' ∧ ∃ vf vs vt, e = .returned (.tuple #[.agg #[vf, vs, vt], .int .i64 k]) ∧ MadeAt w.heap.size w' vf vs vt d
theorem made_nil (n₀ : Nat) (w : World) : MadeAt n₀ w (.slice none 0 0) (.slice none 0 0) (.slice none 0 0) Board.nil :=
  ⟨World.ownsRow_nil _ _ _ _, World.ownsRow_nil _ _ _ _, [], World.ownsRow_nil _ _ _ _, ⟨rfl, fun j hj => by simp [Board.nil] at hj⟩, Apart.nil, fun u hu => by simp at hu⟩
theorem madeGot_nil {k : Int} {w w' : World} {e : Ending} (hb : Below w.heap.size w w') (he : e = .returned (.tuple #[.agg #[.slice none 0 0, .slice none 0 0, .slice none 0 0], .int .i64 k])) : MadeGot k Board.nil w e w' :=
  ⟨hb, _, _, _, he, made_nil _ _⟩
theorem MadeAt.lo {n₀ n₁ : Nat} {w : World} {vf vs vt : Value} {b : Board} (h : MadeAt n₀ w vf vs vt b) (hn : n₁ ≤ n₀) : MadeAt n₁ w vf vs vt b := by
  obtain ⟨us, h1, h2, h3, h4⟩ := h.fits
  exact ⟨own_lo h.finds hn, own_lo h.slots hn, us, own_lo h1 hn, h2.lo hn, h3, h4⟩

/-- A call of a function that stands in a slot, as a step of a region that draws its order. -/
theorem step_callv {P : Program} {ops : Array Oper} {o : Oper} {a : Act} {w : World} {K : Act → World → Prop} {Q : Exit → Act → World → Prop} {E : Prop}
    (hg : o.guard = none) (x y : Operand) (f : FuncId) (ats : Array TypeId) (hop : o.op = Op.call { callee := Callee.value x, args := #[y], argTypes := ats })
    (hcf : ∀ v w, (callFunc f v).run P w = .ok (.enter f v) w) (v : Value) (caps : Array Value) (hx : a.eval x = .func (.func f) #[] caps) (hy : a.eval y = v) (R : Value → World → Prop)
    (hc : Calls P f (#[v] ++ caps) w fun e w' => ∃ u, e = .returned u ∧ R u w') (hK : ∀ u w', R u w' → K (a.put o.dst u) w') :
    if Region.wanted o (yielded ops a.tmps) = true then Oper.wp P o a w K Q else E := by
  have hw : Region.wanted o (yielded ops a.tmps) = true := by simp [Region.wanted, hg]
  rw [if_pos hw]
  unfold Oper.wp
  have hr : (execOp a.eval o).run P w = .ok (.enter f (#[v] ++ caps)) w := by
    simp [execOp, hop, resolve, hx, hy, Deferred.ofValue, invoke, hcf, Result.andThen]
  rw [hr, Oper.upon_enter]
  refine hc.mono ?_
  rintro e w' ⟨u, rfl, h⟩
  exact hK u w' h

theorem own_setAt {w : World} {base n g cap i : Nat} {e : TypeId} {xs : List Value} {u : Value} (h : w.ownsRow base e 1 (.slice (some ⟨g, 0, none⟩) n cap) n xs) : (w.setCell ⟨g, i, none⟩ u).ownsRow base e 1 (.slice (some ⟨g, 0, none⟩) n cap) n (xs.set i u) := by
  rcases h.2 with ⟨h2, _⟩ | ⟨g', cap', cur, h1, hb, h2, h3, h4, h5, h6⟩
  · cases h2
  · cases h1
    refine ⟨by rw [List.length_set]; exact h.1, .inr ⟨g, cap, _, rfl, hb, set_block h2, h3, h4, by simpa using h5, ?_⟩⟩
    rw [Array.toList_setIfInBounds, List.take_set, h6]
theorem Apart.set {us : List Value} {f g B : Nat} {u v : Value} (h : Apart us) (hf : us[f]? = some v) (hv : v.ownBlock = some g) (hB : ∀ u ∈ us, ∀ x, u.ownBlock = some x → x < B) (hu : ∀ x, u.ownBlock = some x → x = g ∨ B ≤ x) : Apart (us.set f u) := by
  intro i j a c x hij hi hj hx
  have hfl := (List.getElem?_eq_some_iff.1 hf).1
  by_cases e1 : i = f
  · subst e1
    rw [List.getElem?_set_self hfl] at hi
    cases hi
    rw [List.getElem?_set_ne hij] at hj
    intro hc
    rcases hu x hx with rfl | hge
    · exact h i j v c _ hij hf hj hv hc
    · have := hB c (List.mem_of_getElem? hj) x hc
      omega
  · rw [List.getElem?_set_ne (Ne.symm e1)] at hi
    by_cases e2 : j = f
    · subst e2
      rw [List.getElem?_set_self hfl] at hj
      cases hj
      intro hc
      rcases hu x hc with rfl | hge
      · exact h i j a v _ hij hi hf hx hv
      · have := hB a (List.mem_of_getElem? hi) x hx
        omega
    · rw [List.getElem?_set_ne (Ne.symm e2)] at hj
      exact h i j a c x hij hi hj hx

/-- The board in which a find fits other slots, as it lies when its row is exchanged. -/
theorem refit_mem {n₀ gt g cT c f rb : Nat} {b : Board} {w2 w3 : World} {vf vs u x0 x1 x2 : Value} {us : List Value} {L L' : List Int} {y : Array Value} (hfl : f < b.fits.length)
    (hf : w2.ownsRow n₀ 3 1 vf b.finds.length (ints b.finds)) (hs : w2.ownsRow n₀ 50 3 vs b.slots.length (slotCells b.slots))
    (ht : w2.ownsRow n₀ 22 1 (.slice (some ⟨gt, 0, none⟩) b.fits.length cT) b.fits.length us) (hl : ListsOwn w2 n₀ us b.fits) (hap : Apart us) (hd : ∀ u ∈ us, ∀ g, vf.ownBlock = some g → u.ownBlock ≠ some g)
    (hrow : us[f]? = some (.slice (some ⟨g, 0, none⟩) L.length c)) (o3 : Only [g] w2 w3) (hu : w3.ownsRow n₀ 3 1 u L'.length (ints L')) (hub : ∀ x, u.ownBlock = some x → x = g ∨ w2.heap.size ≤ x)
    (hrb : w2.heap[rb]? = some (.cells y 26 (0, 0))) :
    MadeAt n₀ ((((w3.setCell ⟨gt, f, none⟩ u).setCell ⟨rb, 0, none⟩ x0).setCell ⟨rb, 1, none⟩ x1).setCell ⟨rb, 2, none⟩ x2) vf vs (.slice (some ⟨gt, 0, none⟩) b.fits.length cT) (b.refit f L') := by
  obtain ⟨ct, hct⟩ := own_heap ht
  have hlen : f < us.length := (List.getElem?_eq_some_iff.1 hrow).1
  obtain ⟨v, hv1, hv2⟩ := hl.2 f hfl
  rw [hrow] at hv1
  cases hv1
  have hg3 : ∃ cs, w2.heap[g]? = some (.cells cs 3 (0, 0)) := by
    rcases hv2.2 with ⟨h2, _⟩ | ⟨g', cap', cur, h1, _, h2, _⟩
    · cases h2
    · injection h1 with a1 a2 a3
      cases a1
      exact ⟨cur, h2⟩
  obtain ⟨cg, hcg⟩ := hg3
  have ne1 : gt ≠ g := fun e => by rw [e, hcg] at hct; simp at hct
  have ne2 : rb ≠ g := fun e => by rw [e, hcg] at hrb; simp at hrb
  have ne3 : rb ≠ gt := fun e => by rw [e, hct] at hrb; simp at hrb
  have hct3 := (o3.block gt (Array.getElem?_eq_some_iff.1 hct).1 (by simpa using ne1)).trans hct
  have hrb3 := (o3.block rb (Array.getElem?_eq_some_iff.1 hrb).1 (by simpa using ne2)).trans hrb
  have hrb4 : (w3.setCell ⟨gt, f, none⟩ u).heap[rb]? = some (.cells y 26 (0, 0)) := (((Only.refl [gt] w3).setCell (by simp) u).block rb (Array.getElem?_eq_some_iff.1 hrb3).1 (by simpa using ne3)).trans hrb3
  have keep3 : ∀ {z : Value} {n : Nat} {xs : List Value}, w2.ownsRow n₀ 3 1 z n xs → z.ownBlock ≠ some g →
      ((((w3.setCell ⟨gt, f, none⟩ u).setCell ⟨rb, 0, none⟩ x0).setCell ⟨rb, 1, none⟩ x1).setCell ⟨rb, 2, none⟩ x2).ownsRow n₀ 3 1 z n xs := fun h hz =>
    own_set3 (own_set (own_onlyN h o3 (fun x hx => by rw [List.mem_singleton]; rintro rfl; exact hz hx)) hct3 (by decide)) hrb4 (by decide)
  refine ⟨keep3 hf (fun e => hd _ (List.mem_of_getElem? hrow) g e rfl), ?_, us.set f u, ?_, ?_, ?_, ?_⟩
  · exact own_set3 (own_set (own_onlyN hs o3 (fun x hx => by rw [List.mem_singleton]; rintro rfl; exact own_type hs hcg (by decide) hx)) hct3 (by decide)) hrb4 (by decide)
  · have h4 := own_set3 (a := x0) (b := x1) (c := x2) (own_setAt (i := f) (u := u) (own_onlyN ht o3 (fun x hx => by rw [List.mem_singleton]; rintro rfl; exact own_type ht hcg (by decide) hx))) hrb4 (by decide)
    simpa [Board.refit] using h4
  · refine ⟨by simp [Board.refit, hl.1], fun j hj => ?_⟩
    simp only [Board.refit, List.length_set] at hj
    by_cases e : f = j
    · subst e
      refine ⟨u, by rw [List.getElem?_set_self hlen], ?_⟩
      simp only [Board.refit, List.getElem_set_self]
      exact own_set3 (own_set hu hct3 (by decide)) hrb4 (by decide)
    · obtain ⟨z, h1, h2⟩ := hl.2 j hj
      refine ⟨z, by rw [List.getElem?_set_ne e]; exact h1, ?_⟩
      simp only [Board.refit, List.getElem_set_ne e]
      exact keep3 h2 (fun k => hap f j _ z g e hrow h1 rfl k)
  · exact hap.set hrow rfl (fun z hz x hx => (own_blocks hl z hz x hx).2) hub
  · intro z hz x hx hzx
    rcases List.mem_or_eq_of_mem_set hz with h1 | rfl
    · exact hd z h1 x hx hzx
    · rcases hub x hzx with rfl | hge
      · exact hd _ (List.mem_of_getElem? hrow) x hx rfl
      · have := (hf.lt x hx).2
        omega

/-- What the function that is handed to fitted comes to. -/
def RowGot (n₀ g : Nat) (w1 : World) (L' : List Int) (u : Value) (w' : World) : Prop :=
  w'.ownsRow n₀ 3 1 u L'.length (ints L') ∧ (∃ A c', u = .slice A L'.length c') ∧ Only [g] w1 w' ∧ ∀ x, u.ownBlock = some x → x = g ∨ w1.heap.size ≤ x

set_option maxHeartbeats 1000000 in
theorem barredRow_any (g c bx n₀ : Nat) (L : List Int) (s : Int) (w1 : World) (hbx : w1.cell? ⟨bx, 0, none⟩ = some (.int .i64 s)) (hg : bx ≠ g)
    (hO : w1.ownsRow n₀ 3 1 (.slice (some ⟨g, 0, none⟩) L.length c) L.length (ints L)) (hs : s ∈ L) (hL : L.length ≤ 1000) :
    Calls Try.prog 79 #[.slice (some ⟨g, 0, none⟩) L.length c, .pointer (some ⟨bx, 0, none⟩)] w1 fun e w' => ∃ u, e = .returned u ∧ RowGot n₀ g w1 (drop L s) u w' := by
  have hmf : ∀ (fn : Fn) (first cap : Array Value) (w : World), (Instr.makeFunc fn first cap).run Try.prog w = .ok (.func fn first cap) w := fun _ _ _ _ => rfl
  have HD := hid (dropped_any g c bx L s w1 hL (own_cap hO).1 n₀ hO hbx hg hs)
  clear hO hs hbx
  go_enter Try.func79, Try.ntmps79
  go_wp2_with fail
  refine HD.out.mono ?_
  rintro e w' ⟨rfl, h1, h2⟩
  have H1 := hid h1
  have H2 := hid h2
  clear h1 h2
  go_wp2_with fail
  go_ret
  exact ⟨_, rfl, H1.out, ⟨_, _, rfl⟩, H2.out, fun x hx => .inl (by simpa [Value.ownBlock] using hx.symm)⟩

set_option maxHeartbeats 1000000 in
theorem fixedRow_any (g c bx n₀ : Nat) (L : List Int) (s : Int) (w1 : World) (hbx : w1.cell? ⟨bx, 0, none⟩ = some (.int .i64 s)) (hn : n₀ ≤ w1.heap.size) :
    Calls Try.prog 65 #[.slice (some ⟨g, 0, none⟩) L.length c, .pointer (some ⟨bx, 0, none⟩)] w1 fun e w' => ∃ u, e = .returned u ∧ RowGot n₀ g w1 [s] u w' := by
  go_enter Try.func65, Try.ntmps65
  go_wp2_with fail
  go_ret
  refine ⟨_, rfl, ⟨rfl, .inr ⟨w1.heap.size, 1, #[.int .i64 s], rfl, hn, heap_alloc_new _ _, Nat.le_refl _, by unfold maxLen; omega, rfl, rfl⟩⟩, ⟨_, _, rfl⟩, (Only.refl _ _).alloc _, fun x hx => .inr ?_⟩
  simp [Value.ownBlock] at hx
  omega

theorem one_set {w : World} {gt f rb : Nat} {x : Value} {o : Obj} (h : w.heap[rb]? = some o) (hne : rb ≠ gt) : (w.setCell ⟨gt, f, none⟩ x).heap[rb]? = some o :=
  (((Only.refl [gt] w).setCell (by simp) x).block rb (Array.getElem?_eq_some_iff.1 h).1 (by simpa using hne)).trans h
theorem refit_ne {n₀ gt g cT c n m cb rb : Nat} {w : World} {us xs : List Value} {x y : Array Value} (ht : w.ownsRow n₀ 22 1 (.slice (some ⟨gt, 0, none⟩) n cT) n us) (hr : w.ownsRow n₀ 3 1 (.slice (some ⟨g, 0, none⟩) m c) m xs)
    (hcb : w.heap[cb]? = some (.cells x 26 (0, 0))) (hrb : w.heap[rb]? = some (.cells y 26 (0, 0))) :
    (cb < w.heap.size ∧ rb < w.heap.size ∧ gt < w.heap.size) ∧ (cb ≠ g ∧ rb ≠ g ∧ gt ≠ g) ∧ cb ≠ gt ∧ rb ≠ gt := by
  obtain ⟨ct, hct⟩ := own_heap ht
  obtain ⟨cg, hcg⟩ := own_heap hr
  refine ⟨⟨(Array.getElem?_eq_some_iff.1 hcb).1, (Array.getElem?_eq_some_iff.1 hrb).1, (Array.getElem?_eq_some_iff.1 hct).1⟩, ⟨?_, ?_, ?_⟩, ?_, ?_⟩
  · intro e; rw [e, hcg] at hcb; simp at hcb
  · intro e; rw [e, hcg] at hrb; simp at hrb
  · intro e; rw [e, hcg] at hct; simp at hct
  · intro e; rw [e, hct] at hcb; simp at hcb
  · intro e; rw [e, hct] at hrb; simp at hrb

/-- What fitted comes to, where q is what is asked of a board, a find and a slot. -/
def FitPost (q : Int) (b : Board) (f s : Int) (F : List Int → List Int) (w : World) (e : Ending) (w' : World) : Prop :=
  ∃ k d, MadeGot k d w e w' ∧ ((q ≠ 0 ∧ k = q ∧ d = Board.nil) ∨ (q = 0 ∧ s ∉ fitOf b.fits f.toNat ∧ k = 5 ∧ d = Board.nil) ∨ (q = 0 ∧ s ∈ fitOf b.fits f.toNat ∧ k = 0 ∧ d = b.refit f.toNat (F (fitOf b.fits f.toNat))))

set_option maxRecDepth 100000 in
set_option maxHeartbeats 8000000 in
theorem fitted_any (cl bx : Nat) (F : List Int → List Int) (hcf : ∀ v w, (callFunc cl v).run Try.prog w = .ok (.enter cl v) w) (b : Board) (Af As At : Option Addr) (cf cs ct : Nat) (w : World) (hs : b.small) (hB : BoardAt w Af As At b) (f s : Int)
    (hbx : w.cell? ⟨bx, 0, none⟩ = some (.int .i64 s))
    (hcl : ∀ (w1 : World) (g c n₀ : Nat) (L : List Int), w1.cell? ⟨bx, 0, none⟩ = some (.int .i64 s) → n₀ ≤ w1.heap.size → bx ≠ g → w1.ownsRow n₀ 3 1 (.slice (some ⟨g, 0, none⟩) L.length c) L.length (ints L) → s ∈ L → L.length ≤ 1000 →
      Calls Try.prog cl #[.slice (some ⟨g, 0, none⟩) L.length c, .pointer (some ⟨bx, 0, none⟩)] w1 fun e w' => ∃ u, e = .returned u ∧ RowGot n₀ g w1 (F L) u w') :
    Calls Try.prog 64 #[.agg #[.slice Af b.finds.length cf, .slice As b.slots.length cs, .slice At b.fits.length ct], .int .i64 f, .int .i64 s, .func (.func cl) #[] #[.pointer (some ⟨bx, 0, none⟩)]] w
      (FitPost (askOf b f s false false) b f s F w) := by
  have HS := hid hs
  have n1 := hs.1
  have n3 := hs.2.2.1
  have N4 := hid hs.2.2.2
  have HCL := hid hcl
  have HCF := hid hcf
  have HBX := hid hbx
  obtain ⟨W, hW, c0, c1, c2, hbW, hz⟩ := box3 w (.slice Af b.finds.length cf) (.slice As b.slots.length cs) (.slice At b.fits.length ct) 26
  obtain ⟨V, hV, r0, r1, r2, hbV, hzV⟩ := box3 W (.slice none 0 0) (.slice none 0 0) (.slice none 0 0) 26
  have hB0 := hid hB
  have HBV := hid (hbW.trans (hbV.mono hbW.size))
  have v0 := (Kept.of_below hbV) _ _ c0
  have v1 := (Kept.of_below hbV) _ _ c1
  have v2 := (Kept.of_below hbV) _ _ c2
  have HRB : Hid (V.heap[W.heap.size]? = some (.cells #[.slice none 0 0, .slice none 0 0, .slice none 0 0] 26 (0, 0))) := hid (by rw [← hV]; exact heap_alloc_new _ _)
  have HZ2 : Hid (w.heap.size ≤ W.heap.size) := hid (by omega)
  have HZ : Hid (W.heap.size < V.heap.size) := hid (by omega)
  clear hz hbW hbV hzV hB hs c0 c1 c2 r0 r1 r2 hcl hcf hbx
  obtain ⟨k0, hk0⟩ : ∃ k, askOf b f s false false = k := ⟨_, rfl⟩
  have HK := hid hk0
  rw [hk0]
  clear hk0
  go_enter Try.func64, Try.ntmps64
  go_wp2_with fail
  refine (both_any b Af As At cf cs ct V HS.out (hB0.out.kept (Kept.of_below HBV.out)) f s HK.out).mono ?_
  rintro e w1 ⟨rfl, hb1⟩
  have m0 := (Kept.of_below hb1) _ _ v0
  have m1 := (Kept.of_below hb1) _ _ v1
  have m2 := (Kept.of_below hb1) _ _ v2
  have hrb := (hb1.block W.heap.size HZ.out).trans HRB.out
  have z0 : w1.cell? ⟨W.heap.size, 0, none⟩ = some (.slice none 0 0) := by simp [World.cell?, hrb]
  have z1 : w1.cell? ⟨W.heap.size, 1, none⟩ = some (.slice none 0 0) := by simp [World.cell?, hrb]
  have z2 : w1.cell? ⟨W.heap.size, 2, none⟩ = some (.slice none 0 0) := by simp [World.cell?, hrb]
  have z3 : ∀ o, w1.frozen? ⟨W.heap.size, o, none⟩ = false := fun o => by simp [World.frozen?, hrb]
  have HRB1 := hid hrb
  have HB1 := hid (HBV.out.trans (hb1.mono HBV.out.size))
  clear hb1 hrb hW hV v0 v1 v2 HRB
  by_cases hk : k0 = 0
  case neg =>
    have d1 : (k0 != 0) = true := by simpa using hk
    have HK0 := hid hk
    clear hk
    go_wp2_with fail
    refine bodyPost_ret (ret_board2 rfl rfl rfl (set3 HRB1.out)) rfl ?_
    exact ⟨k0, Board.nil, madeGot_nil (below_set3 HB1.out HZ2.out) rfl, .inl ⟨HK0.out, rfl, rfl⟩⟩
  subst hk
  obtain ⟨hck, r1, r2, r3, r4⟩ := askOf_range HK.out
  obtain ⟨fn, rfl⟩ := Int.eq_ofNat_of_zero_le r1
  have HFI := hid (Board.check_fine HS.out hck)
  have hff : fn < b.fits.length := by rw [HFI.out.fits]; omega
  obtain ⟨L, hL⟩ : ∃ L, b.fits[fn] = L := ⟨_, rfl⟩
  have HFO : Hid (fitOf b.fits ((fn : Int)).toNat = L) := hid (by rw [Int.toNat_natCast, fitOf_lt hff, hL])
  have HL0 := hid hL
  have hlen : L.length ≤ 60 := by rw [← hL]; exact N4.out _ (List.getElem_mem _)
  obtain ⟨fb, foff, rfl, hc⟩ := (hB0.out.fits.kept (Kept.of_below HB1.out)) (by omega)
  obtain ⟨Aj, cj, f1, f2⟩ := hc fn hff
  rw [hL] at f1 f2
  have F2 := hid f2
  obtain ⟨t, ht⟩ : ∃ t, decide (s ∈ L) = t := ⟨_, rfl⟩
  have HT := hid ht
  have i0 : (0 : Int) ≤ fn := by omega
  have i1 : (fn : Int) < b.fits.length := by omega
  clear hck hc f2 hL ht
  rcases t with _ | _
  case false =>
    go_wp2_with fail
    refine (contains_t _ _ _ _ _ (by omega) F2.out HT.out).mono ?_
    rintro e w' ⟨rfl, rfl⟩
    go_wp2_with fail
    refine bodyPost_ret (ret_board2 rfl rfl rfl (set3 HRB1.out)) rfl ?_
    exact ⟨5, Board.nil, madeGot_nil (below_set3 HB1.out HZ2.out) rfl, .inr (.inl ⟨rfl, by rw [HFO.out]; exact of_decide_eq_false HT.out, rfl, rfl⟩)⟩
  go_wp2_with fail
  refine (contains_t _ _ _ _ _ (by omega) F2.out HT.out).mono ?_
  rintro e w' ⟨rfl, rfl⟩
  go_wp2_with fail
  refine (other_any b Af As (some ⟨fb, foff, none⟩) cf cs ct w1 HS.out (hB0.out.kept (Kept.of_below HB1.out))).mono ?_
  rintro e w2 ⟨vf, vs, vt, rfl, hM, hb2⟩
  obtain ⟨us, oT, hl, hap, hd⟩ := hM.fits
  have oF := hM.finds
  have oS := hM.slots
  obtain ⟨aF, cF, rfl, _, _⟩ := ownsRow.form oF
  obtain ⟨aS, cS, rfl, _, _⟩ := ownsRow.form oS
  obtain ⟨gt, cT, rfl, _, _⟩ := own_slice oT (by omega)
  obtain ⟨z, hz1, hz2⟩ := hl.2 fn hff
  rw [HL0.out] at hz2
  obtain ⟨g, c, rfl, _, _⟩ := own_slice hz2 (List.length_pos_of_mem (of_decide_eq_true HT.out))
  obtain ⟨V2, hV2, y0, y1, y2, hbV2, hzz⟩ := box3 w2 (.slice aF b.finds.length cF) (.slice aS b.slots.length cS) (.slice (some ⟨gt, 0, none⟩) b.fits.length cT) 26
  have HCB : Hid (V2.heap[w2.heap.size]? = some (.cells #[.slice aF b.finds.length cF, .slice aS b.slots.length cS, .slice (some ⟨gt, 0, none⟩) b.fits.length cT] 26 (0, 0))) := hid (by rw [← hV2]; exact heap_alloc_new _ _)
  have HRB2 := hid ((hbV2.block W.heap.size (Nat.lt_of_lt_of_le (Array.getElem?_eq_some_iff.1 HRB1.out).1 hb2.size)).trans ((hb2.block W.heap.size (Array.getElem?_eq_some_iff.1 HRB1.out).1).trans HRB1.out))
  have HB2 := hid (HB1.out.trans ((hb2.trans (hbV2.mono hb2.size)).mono HB1.out.size))
  have OF := hid (own_below oF hbV2)
  have OS := hid (own_below oS hbV2)
  have OT := hid (own_below oT hbV2)
  have OR := hid (own_below hz2 hbV2)
  have HL := hid (hl.below hbV2)
  have HD := hid hd
  have HAP := hid hap
  have HROW := hid hz1
  have HLO : Hid (w.heap.size ≤ w1.heap.size ∧ w1.heap.size ≤ V2.heap.size) := hid ⟨HB1.out.size, Nat.le_trans hb2.size hbV2.size⟩
  have hrowc := (own_asIs OT.out) fn (by rw [HL.out.1]; exact hff)
  have hg1 : V2.cell? ⟨gt, fn, none⟩ = some (.slice (some ⟨g, 0, none⟩) L.length c) := by
    rw [hrowc.1]
    have := (List.getElem?_eq_some_iff.1 hz1).2
    simp only [asIs, this]
  have hg2 : V2.frozen? ⟨gt, fn, none⟩ = false := hrowc.2
  have hbx2 := hid ((Kept.of_below HB2.out) _ _ HBX.out)
  have HGB : Hid (bx ≠ g) := hid (by have h0 : bx < w.heap.size := cell_lt HBX.out; have := (own_cap OR.out).2.2; have := HLO.out.1; omega)
  have hne := hid (refit_ne OT.out OR.out HCB.out HRB2.out)
  have ERC : Hid (∃ h : True, Calls Try.prog cl #[.slice (some ⟨g, 0, none⟩) L.length c, .pointer (some ⟨bx, 0, none⟩)] V2.drew fun e w' => ∃ u, e = .returned u ∧ RowGot w1.heap.size g V2.drew (F L) u w') :=
    hid ⟨trivial, HCL.out V2.drew g c w1.heap.size L hbx2.out HLO.out.2 HGB.out OR.out (of_decide_eq_true HT.out) (by omega)⟩
  clear hM oF oS oT hl hap hd hb2 hbV2 hzz hz1 hz2 hrowc m0 m1 m2 z0 z1 z2 z3
  go_wp2_with fail
  go_region_law (first
    | (refine step_callv rfl (.tmp 34) (.tmp 39) cl #[22] rfl HCF.out (.slice (some ⟨g, 0, none⟩) L.length c) #[.pointer (some ⟨bx, 0, none⟩)] ?hs ?ht (RowGot w1.heap.size g V2.drew (F L)) ERC.out.2 ?_
       case hs => simp [Act.eval, Act.put]
       case ht => simp [Act.eval, Act.put]
       rintro u w3 ⟨r1, ⟨A', c', rfl⟩, r3, r4⟩
       have R1 := hid r1
       have R3 := hid (((Only.refl [g] V2).then (Below.refl _ _).drew).trans r3)
       have R4 := hid r4
       have p0 := (R3.out.cell (p := ⟨w2.heap.size, 0, none⟩) hne.out.1.1 (by simpa using hne.out.2.1.1)).trans y0
       have p1 := (R3.out.cell (p := ⟨w2.heap.size, 1, none⟩) hne.out.1.1 (by simpa using hne.out.2.1.1)).trans y1
       have p2 := (R3.out.cell (p := ⟨w2.heap.size, 2, none⟩) hne.out.1.1 (by simpa using hne.out.2.1.1)).trans y2
       have p3 := (R3.out.cell (p := ⟨gt, fn, none⟩) hne.out.1.2.2 (by simpa using hne.out.2.1.2.2)).trans hg1
       have p4 := (R3.out.frozen (p := ⟨gt, fn, none⟩) hne.out.1.2.2 (by simpa using hne.out.2.1.2.2)).trans hg2
       have hrb := (R3.out.block W.heap.size hne.out.1.2.1 (by simpa using hne.out.2.1.2.1)).trans HRB2.out
       have q0 : w3.cell? ⟨W.heap.size, 0, none⟩ = some (.slice none 0 0) := by simp [World.cell?, hrb]
       have q1 : w3.cell? ⟨W.heap.size, 1, none⟩ = some (.slice none 0 0) := by simp [World.cell?, hrb]
       have q2 : w3.cell? ⟨W.heap.size, 2, none⟩ = some (.slice none 0 0) := by simp [World.cell?, hrb]
       have q3 : ∀ o, w3.frozen? ⟨W.heap.size, o, none⟩ = false := fun o => by simp [World.frozen?, hrb]
       have q4 := hne.out.2.2.1
       have q5 := hne.out.2.2.2
       have HRB3 := hid hrb
       clear r1 r3 r4 hrb))
  all_goals
    go_wp2_with fail
    refine bodyPost_ret (ret_board2 rfl rfl rfl (set3 (one_set HRB3.out hne.out.2.2.2))) rfl ?_
    have hm := refit_mem (rb := W.heap.size) (x0 := .slice aF b.finds.length cF) (x1 := .slice aS b.slots.length cS) (x2 := .slice (some ⟨gt, 0, none⟩) b.fits.length cT) hff OF.out OS.out OT.out HL.out HAP.out HD.out HROW.out R3.out R1.out R4.out HRB2.out
    refine ⟨0, _, ⟨?_, _, _, _, rfl, hm.lo HLO.out.1⟩, .inr (.inr ⟨rfl, by rw [HFO.out]; exact of_decide_eq_true HT.out, rfl, by rw [HFO.out, Int.toNat_natCast]⟩)⟩
    refine below_set3 (HB2.out.trans (((R3.out.wide (Y := [gt, g]) (by simp)).setCell (p := ⟨gt, fn, none⟩) (by simp) _).below (fun x hx => ?_) HB2.out.size)) HZ2.out
    have h1 := (own_cap OT.out).2.2
    have h2 := (own_cap OR.out).2.2
    have h3 := HLO.out
    simp only [List.mem_cons, List.not_mem_nil, or_false] at hx
    rcases hx with rfl | rfl <;> omega

theorem MadeAt.set3 {n₀ cb : Nat} {w : World} {vf vs vt a x c : Value} {b : Board} {cs : Array Value} (h : MadeAt n₀ w vf vs vt b) (hc : w.heap[cb]? = some (.cells cs 26 (0, 0))) :
    MadeAt n₀ (((w.setCell ⟨cb, 0, none⟩ a).setCell ⟨cb, 1, none⟩ x).setCell ⟨cb, 2, none⟩ c) vf vs vt b := by
  obtain ⟨us, h1, h2, h3, h4⟩ := h.fits
  exact ⟨own_set3 h.finds hc (by decide), own_set3 h.slots hc (by decide), us, own_set3 h1 hc (by decide), h2.set3 hc (by decide), h3, h4⟩
theorem boxI (w : World) (s : Int) : ∃ V, w.alloc (.cells #[.int .i64 s] 3) = V ∧ V.cell? ⟨w.heap.size, 0, none⟩ = some (.int .i64 s) ∧ Below w.heap.size w V ∧ V.heap.size = w.heap.size + 1 :=
  ⟨_, rfl, by simp, (Below.refl _ _).alloc (Nat.le_refl _) _, by simp⟩

theorem call79 (v : Array Value) (w : World) : (callFunc 79 v).run Try.prog w = .ok (.enter 79 v) w := by
  have h := Try.func79
  unfold callFunc
  simp [h, Try.f79]
set_option maxRecDepth 100000 in
set_option maxHeartbeats 8000000 in
theorem barred_any (b : Board) (Af As At : Option Addr) (cf cs ct : Nat) (w : World) (hs : b.small) (hB : BoardAt w Af As At b) (f s : Int) :
    Calls Try.prog 43 #[.agg #[.slice Af b.finds.length cf, .slice As b.slots.length cs, .slice At b.fits.length ct], .int .i64 f, .int .i64 s] w (FitPost (askOf b f s false false) b f s (fun L => drop L s) w) := by
  obtain ⟨W, hW, c0, c1, c2, hbW, hz⟩ := box3 w (.slice Af b.finds.length cf) (.slice As b.slots.length cs) (.slice At b.fits.length ct) 26
  obtain ⟨U, hU, u0, hbU, hzU⟩ := boxI W s
  obtain ⟨V, hV, r0, r1, r2, hbV, hzV⟩ := box3 U (.slice none 0 0) (.slice none 0 0) (.slice none 0 0) 26
  have hmf : ∀ (fn : Fn) (first cap : Array Value) (w : World), (Instr.makeFunc fn first cap).run Try.prog w = .ok (.func fn first cap) w := fun _ _ _ _ => rfl
  have kUV := (Kept.of_below hbU).trans (Kept.of_below hbV)
  have v0 := kUV _ _ c0
  have v1 := kUV _ _ c1
  have v2 := kUV _ _ c2
  have u0 := (Kept.of_below hbV) _ _ u0
  have hwU := hbW.trans (hbU.mono hbW.size)
  have HBV := hid (hwU.trans (hbV.mono hwU.size))
  have HRB : Hid (V.heap[U.heap.size]? = some (.cells #[.slice none 0 0, .slice none 0 0, .slice none 0 0] 26 (0, 0))) := hid (by rw [← hV]; exact heap_alloc_new _ _)
  have HZ2 : Hid (w.heap.size ≤ U.heap.size) := hid hwU.size
  have HF := hid (fitted_any 79 W.heap.size (fun L => drop L s) call79 b Af As At cf cs ct V hs (hB.kept (Kept.of_below HBV.out)) f s u0 (fun w1 g c n₀ L h1 h2 h3 h4 h5 h6 => barredRow_any g c W.heap.size n₀ L s w1 h1 h3 h4 h5 h6))
  clear hz hzU hzV hbW hbU hbV hwU kUV c0 c1 c2 r0 r1 r2 hs hB
  go_enter Try.func43, Try.ntmps43
  go_wp2_with fail
  refine HF.out.mono ?_
  rintro e w1 ⟨k, d, ⟨hb1, vf, vs, vt, rfl, hM⟩, hcase⟩
  obtain ⟨Af', cf', As', cs', At', ct', rfl, rfl, rfl, _⟩ := hM.boardAt
  have HM := hid hM
  have HCASE := hid hcase
  have hrb := (hb1.block U.heap.size (Array.getElem?_eq_some_iff.1 HRB.out).1).trans HRB.out
  have z0 : w1.cell? ⟨U.heap.size, 0, none⟩ = some (.slice none 0 0) := by simp [World.cell?, hrb]
  have z1 : w1.cell? ⟨U.heap.size, 1, none⟩ = some (.slice none 0 0) := by simp [World.cell?, hrb]
  have z2 : w1.cell? ⟨U.heap.size, 2, none⟩ = some (.slice none 0 0) := by simp [World.cell?, hrb]
  have z3 : ∀ o, w1.frozen? ⟨U.heap.size, o, none⟩ = false := fun o => by simp [World.frozen?, hrb]
  have HRB1 := hid hrb
  have HB1 := hid (HBV.out.trans (hb1.mono HBV.out.size))
  clear hb1 hrb hM hcase HF
  go_wp2_with fail
  refine bodyPost_ret (ret_board2 rfl rfl rfl (set3 HRB1.out)) rfl ?_
  exact ⟨k, d, ⟨below_set3 HB1.out HZ2.out, _, _, _, rfl, (HM.out.lo HBV.out.size).set3 HRB1.out⟩, HCASE.out⟩

theorem call65 (v : Array Value) (w : World) : (callFunc 65 v).run Try.prog w = .ok (.enter 65 v) w := by
  have h := Try.func65
  unfold callFunc
  simp [h, Try.f65]
set_option maxRecDepth 100000 in
set_option maxHeartbeats 8000000 in
theorem fixed_any (b : Board) (Af As At : Option Addr) (cf cs ct : Nat) (w : World) (hs : b.small) (hB : BoardAt w Af As At b) (f s : Int) :
    Calls Try.prog 27 #[.agg #[.slice Af b.finds.length cf, .slice As b.slots.length cs, .slice At b.fits.length ct], .int .i64 f, .int .i64 s] w (FitPost (askOf b f s false false) b f s (fun _ => [s]) w) := by
  obtain ⟨W, hW, c0, c1, c2, hbW, hz⟩ := box3 w (.slice Af b.finds.length cf) (.slice As b.slots.length cs) (.slice At b.fits.length ct) 26
  obtain ⟨U, hU, u0, hbU, hzU⟩ := boxI W s
  obtain ⟨V, hV, r0, r1, r2, hbV, hzV⟩ := box3 U (.slice none 0 0) (.slice none 0 0) (.slice none 0 0) 26
  have hmf : ∀ (fn : Fn) (first cap : Array Value) (w : World), (Instr.makeFunc fn first cap).run Try.prog w = .ok (.func fn first cap) w := fun _ _ _ _ => rfl
  have kUV := (Kept.of_below hbU).trans (Kept.of_below hbV)
  have v0 := kUV _ _ c0
  have v1 := kUV _ _ c1
  have v2 := kUV _ _ c2
  have u0 := (Kept.of_below hbV) _ _ u0
  have hwU := hbW.trans (hbU.mono hbW.size)
  have HBV := hid (hwU.trans (hbV.mono hwU.size))
  have HRB : Hid (V.heap[U.heap.size]? = some (.cells #[.slice none 0 0, .slice none 0 0, .slice none 0 0] 26 (0, 0))) := hid (by rw [← hV]; exact heap_alloc_new _ _)
  have HZ2 : Hid (w.heap.size ≤ U.heap.size) := hid hwU.size
  have HF := hid (fitted_any 65 W.heap.size (fun _ => [s]) call65 b Af As At cf cs ct V hs (hB.kept (Kept.of_below HBV.out)) f s u0 (fun w1 g c n₀ L h1 h2 h3 h4 h5 h6 => fixedRow_any g c W.heap.size n₀ L s w1 h1 h2))
  clear hz hzU hzV hbW hbU hbV hwU kUV c0 c1 c2 r0 r1 r2 hs hB
  go_enter Try.func27, Try.ntmps27
  go_wp2_with fail
  refine HF.out.mono ?_
  rintro e w1 ⟨k, d, ⟨hb1, vf, vs, vt, rfl, hM⟩, hcase⟩
  obtain ⟨Af', cf', As', cs', At', ct', rfl, rfl, rfl, _⟩ := hM.boardAt
  have HM := hid hM
  have HCASE := hid hcase
  have hrb := (hb1.block U.heap.size (Array.getElem?_eq_some_iff.1 HRB.out).1).trans HRB.out
  have z0 : w1.cell? ⟨U.heap.size, 0, none⟩ = some (.slice none 0 0) := by simp [World.cell?, hrb]
  have z1 : w1.cell? ⟨U.heap.size, 1, none⟩ = some (.slice none 0 0) := by simp [World.cell?, hrb]
  have z2 : w1.cell? ⟨U.heap.size, 2, none⟩ = some (.slice none 0 0) := by simp [World.cell?, hrb]
  have z3 : ∀ o, w1.frozen? ⟨U.heap.size, o, none⟩ = false := fun o => by simp [World.frozen?, hrb]
  have HRB1 := hid hrb
  have HB1 := hid (HBV.out.trans (hb1.mono HBV.out.size))
  clear hb1 hrb hM hcase HF
  go_wp2_with fail
  refine bodyPost_ret (ret_board2 rfl rfl rfl (set3 HRB1.out)) rfl ?_
  exact ⟨k, d, ⟨below_set3 HB1.out HZ2.out, _, _, _, rfl, (HM.out.lo HBV.out.size).set3 HRB1.out⟩, HCASE.out⟩
end Go.Proofs.Ytpmdjbjnihhjeaa
