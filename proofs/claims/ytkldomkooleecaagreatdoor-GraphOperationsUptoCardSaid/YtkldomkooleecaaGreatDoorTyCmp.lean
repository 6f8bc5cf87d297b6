/- Walks: comparison of type terms. -/
import Derived.Test.YtkldomkooleecaaGreatDoorMCmp
import Derived.Deep.RegionHeld3
namespace Go.Proofs.YtkldomkooleecaaGreatDoor
open Go.RowKit

/-- A call of a Go function as a step of a region that draws its order: by its contract. -/
theorem step_call2 {P : Program} {ops : Array Oper} {o : Oper} {a : Act} {w : World} {K : Act → World → Prop} {Q : Exit → Act → World → Prop} {E : Prop} {R : Ending → World → Prop}
    (hg : o.guard = none) (f : FuncId) (fn : Func) (hf : P.funcs[f]? = some fn) (hn : (fn.name == "runtime.NumGoroutine") = false) (hb : fn.body.isNone = false) (args : List Operand) (ts : Array TypeId) (ho : o.op = .call { callee := .value (.func f), args := args.toArray, argTypes := ts })
    (vals : List Value) (hv : args.map a.eval = vals) (h : Calls P f vals.toArray w R) (hR : ∀ e w', R e w' → ∃ v, e = .returned v) (hK : ∀ v w', R (.returned v) w' → K (a.put o.dst v) w') :
    if Region.wanted o (yielded ops a.tmps) = true then Oper.wp P o a w K Q else E := by
  have hw : Region.wanted o (yielded ops a.tmps) = true := by simp [Region.wanted, hg]
  rw [if_pos hw]
  have he : (execOp a.eval o).run P w = .ok (.enter f vals.toArray) w := by
    subst hv
    simp [execOp, ho, resolve, Deferred.ofValue, invoke, Act.eval]
    simp [callFunc, hf, program, Sem.run, Result.andThen, beq_eq_false_iff_ne.1 hn]
    intro h0; simp [h0] at hb
  unfold Oper.wp
  rw [he, Oper.upon_enter]
  refine h.mono fun e w' hr => ?_
  obtain ⟨v, rfl⟩ := hR e w' hr
  exact hK v w' hr

/-- A literal of numbers in a block of its own. -/
theorem ints_lit {w : World} {b : Nat} {t : TypeId} (l : List Int) (h : Blk w b (l.map (Value.int .i64)) t) (hl : l.length ≤ 1000000) : Reads (fun _ => True) w (.slice (some ⟨b, 0, none⟩) l.length l.length) 1 (irows l) := by
  refine ⟨irows_cell l, _, _, by rw [irows_length], by rw [irows_length]; exact Nat.le_refl _, by unfold maxLen; omega, .inr ⟨b, 0, rfl, trivial, h.lt, fun k r hk j u hu => ?_⟩⟩
  rw [Nat.zero_add]
  refine h.cell _ _ ?_
  rw [← irows_flatten]
  exact flatten_get (fun r hr' => (irows_cell l r hr').1) hk hu

theorem cmpInt' (x y : Int) (w : World) : Calls Tryz.prog 64 #[.int .i64 x, .int .i64 y] w fun e w' => ∃ r : Int, e = .returned (.int .i64 r) ∧ IsI r x y ∧ w' = w := by
  refine (cmpInt x y w).mono ?_
  rintro e w' ⟨rfl, rfl⟩
  exact ⟨_, rfl, rfl, rfl⟩

/-- The state of the comparison after k arguments. -/
def CmpAt (x y : Ty) (k : Nat) (r : Int) : Prop := (r ≠ 0 ∧ r = tyCmp x y) ∨ (r = 0 ∧ x.args.length = y.args.length ∧ tyCmp x y = tysCmp (x.args.drop k) (y.args.drop k))
theorem CmpAt.start {xk yk : Int} {xn yn : ByteArray} {xi yi : Int} {xa ya : List Ty} {r r1 r2 r3 r4 : Int} (h : IsOr r [r1, r2, r3, r4]) (h1 : IsI r1 xk yk) (h2 : IsS r2 xn yn) (h3 : IsI r3 xi yi) (h4 : IsI r4 xa.length ya.length) : CmpAt (.mk xk xn xi xa) (.mk yk yn yi ya) 0 r := by
  unfold IsOr at h
  unfold IsI at h1 h3 h4
  unfold IsS at h2
  subst h1 h2 h3 h4
  have e : ∀ a b c d : Int, [a, b, c, d].foldr fst0 0 = fst0 a (fst0 b (fst0 c d)) := fun a b c d => by
    simp only [List.foldr_cons, List.foldr_nil, fst0]
    split <;> try rfl
    split <;> try rfl
    split <;> try rfl
    split
    · rename_i h; exact h.symm
    · rfl
  rw [e] at h
  by_cases hr : r = 0
  · right
    have h0 := h.symm.trans hr
    rw [fst0_eq0, fst0_eq0, fst0_eq0, cmpI_ord.zero, cmpS_ord.zero, cmpI_ord.zero, cmpI_ord.zero] at h0
    obtain ⟨_, _, _, h4⟩ := h0
    refine ⟨hr, by simp only [Ty.args]; omega, ?_⟩
    rw [tyCmp, ← h, hr]
    rfl
  · left
    exact ⟨hr, by rw [tyCmp, ← h, fst0_ne hr]⟩
theorem CmpAt.next {x y a b : Ty} {k : Nat} {r r' : Int} (h : CmpAt x y k r) (hr : r = 0) (ha : x.args[k]? = some a) (hb : y.args[k]? = some b) (h' : IsCmp r' a b) : CmpAt x y (k + 1) r' := by
  rcases h with ⟨h, _⟩ | ⟨_, q1, q2⟩
  · exact absurd hr h
  unfold IsCmp at h'
  rw [drop_cons ha, drop_cons hb, tysCmp, ← h'] at q2
  by_cases hr' : r' = 0
  · subst hr'
    exact .inr ⟨rfl, q1, q2⟩
  · rw [fst0_ne hr'] at q2
    exact .inl ⟨hr', q2.symm⟩
theorem CmpAt.done {x y : Ty} {k : Nat} {r : Int} (h : CmpAt x y k r) (hr : r ≠ 0 ∨ ¬ k < x.args.length) : IsCmp r x y := by
  rcases h with ⟨_, h2⟩ | ⟨h1, _, q2⟩
  · exact h2
  · have hk : x.args.length ≤ k := by omega
    unfold IsCmp
    rw [q2, List.drop_eq_nil_of_le hk, h1, tysCmp]
    intro a l b m h
    cases h

set_option maxRecDepth 100000 in
set_option maxHeartbeats 6400000 in
theorem tyCompareAt (d : Nat) (IH : ∀ d', d = d' + 1 → ∀ (S S' : Nat → Prop) (w : World) (x y : Ty) (e e' : Value), TR d' S w e x.args → TR d' S' w e' y.args → Calls Tryz.prog 45 #[.agg #[.int .i64 x.kind, .string x.name, .int .i64 x.index, e], .agg #[.int .i64 y.kind, .string y.name, .int .i64 y.index, e']] w fun q w' => ∃ r : Int, q = .returned (.int .i64 r) ∧ IsCmp r x y ∧ Kept [] w w') :
    ∀ (S S' : Nat → Prop) (w : World) (x y : Ty) (e e' : Value), TR d S w e x.args → TR d S' w e' y.args → Calls Tryz.prog 45 #[.agg #[.int .i64 x.kind, .string x.name, .int .i64 x.index, e], .agg #[.int .i64 y.kind, .string y.name, .int .i64 y.index, e']] w fun q w' => ∃ r : Int, q = .returned (.int .i64 r) ∧ IsCmp r x y ∧ Kept [] w w' := by
  intro S S' w x y e e' h h'
  have HIH := Lib.hid IH
  obtain ⟨xk, xn, xi, xa⟩ := x
  obtain ⟨yk, yn, yi, ya⟩ := y
  simp only [Ty.kind, Ty.name, Ty.index, Ty.args] at h h' ⊢
  obtain ⟨a1, c1, rfl, h1, h2, h3⟩ := h.form
  obtain ⟨a2, c2, rfl, g1, g2, g3⟩ := h'.form
  have H := Lib.hid h
  have H' := Lib.hid h'
  clear h h' IH
  go_enter Tryz.func45, Tryz.ntmps45
  have hx0 : Blk ((w.alloc (.cells #[.int .i64 xk, .string xn, .int .i64 xi, .slice a1 xa.length c1] 39)).alloc (.cells #[.int .i64 yk, .string yn, .int .i64 yi, .slice a2 ya.length c2] 39)) w.heap.size [.int .i64 xk, .string xn, .int .i64 xi, .slice a1 xa.length c1] 39 := Blk.old w _ _ _
  have hy0 : Blk ((w.alloc (.cells #[.int .i64 xk, .string xn, .int .i64 xi, .slice a1 xa.length c1] 39)).alloc (.cells #[.int .i64 yk, .string yn, .int .i64 yi, .slice a2 ya.length c2] 39)) (w.heap.size + 1) [.int .i64 yk, .string yn, .int .i64 yi, .slice a2 ya.length c2] 39 := halloc_new _ _ _ (by simp)
  have HKF : Hid (∀ w', Kept [] ((w.alloc (.cells #[.int .i64 xk, .string xn, .int .i64 xi, .slice a1 xa.length c1] 39)).alloc (.cells #[.int .i64 yk, .string yn, .int .i64 yi, .slice a2 ya.length c2] 39)) w' → w'.cell? ⟨w.heap.size, 0, none⟩ = some (.int .i64 xk) ∧ w'.cell? ⟨w.heap.size, 1, none⟩ = some (.string xn) ∧ w'.cell? ⟨w.heap.size, 2, none⟩ = some (.int .i64 xi) ∧ w'.cell? ⟨w.heap.size, 3, none⟩ = some (.slice a1 xa.length c1) ∧ w'.cell? ⟨w.heap.size + 1, 0, none⟩ = some (.int .i64 yk) ∧ w'.cell? ⟨w.heap.size + 1, 1, none⟩ = some (.string yn) ∧ w'.cell? ⟨w.heap.size + 1, 2, none⟩ = some (.int .i64 yi) ∧ w'.cell? ⟨w.heap.size + 1, 3, none⟩ = some (.slice a2 ya.length c2)) := Lib.hid (fun w' k => by
    obtain ⟨⟨z0, z1, z2, z3⟩, _⟩ := (hx0.kept k (by simp)).four
    obtain ⟨⟨y0, y1, y2, y3⟩, _⟩ := (hy0.kept k (by simp)).four
    exact ⟨z0, z1, z2, z3, y0, y1, y2, y3⟩)
  clear hx0 hy0
  go_wp2_with fail
  go_region_held3 (fun w' => w'.cell? ⟨w.heap.size, 0, none⟩ = some (.int .i64 xk) ∧ w'.cell? ⟨w.heap.size, 1, none⟩ = some (.string xn) ∧ w'.cell? ⟨w.heap.size, 2, none⟩ = some (.int .i64 xi) ∧ w'.cell? ⟨w.heap.size, 3, none⟩ = some (.slice a1 xa.length c1) ∧ w'.cell? ⟨w.heap.size + 1, 0, none⟩ = some (.int .i64 yk) ∧ w'.cell? ⟨w.heap.size + 1, 1, none⟩ = some (.string yn) ∧ w'.cell? ⟨w.heap.size + 1, 2, none⟩ = some (.int .i64 yi) ∧ w'.cell? ⟨w.heap.size + 1, 3, none⟩ = some (.slice a2 ya.length c2)) (first | exact HKF.out _ hk9 | exact HKF.out _ (by repeat (first | exact Kept.refl _ _ | refine Kept.drew ?_ | refine Kept.alloc ?_ _)))
    (first
      | (go_at_call 65; ((with_reducible refine Calls.mono (cmpStr xn yn _) ?_); rintro e w1 ⟨r2, rfl, hr2, rfl⟩))
      | (go_at_call 64; ((with_reducible refine Calls.mono (cmpInt' xk yk _) ?_); rintro e w1 ⟨r1, rfl, hr1, rfl⟩))
      | (go_at_call 64; ((with_reducible refine Calls.mono (cmpInt' xi yi _) ?_); rintro e w1 ⟨r3, rfl, hr3, rfl⟩))
      | (go_at_call 64; ((with_reducible refine Calls.mono (cmpInt' xa.length ya.length _) ?_); rintro e w1 ⟨r4, rfl, hr4, rfl⟩))
      | (go_at_call 63; (refine Calls.mono (cmpOr (S := fun _ => True) _ [r1, r2, r3, r4] _ (by exact ints_lit [r1, r2, r3, r4] (halloc_new _ _ _ (by simp)) (by simp))) ?_; rintro e w9 ⟨r, rfl, hr, rfl⟩; have hk9 := Kept.trans (a := ((w.alloc (.cells #[.int .i64 xk, .string xn, .int .i64 xi, .slice a1 xa.length c1] 39)).alloc (.cells #[.int .i64 yk, .string yn, .int .i64 yi, .slice a2 ya.length c2] 39))) (by repeat (first | exact Kept.refl _ _ | refine Kept.drew ?_ | refine Kept.alloc ?_ _)) (Kept.refl [] _))))
  have hst := CmpAt.start hr hr1 hr2 hr3 hr4
  have HST := Lib.hid hst
  clear hr hr1 hr2 hr3 hr4 hst hk9
  go_wp2
  obtain ⟨W1, hW1⟩ : ∃ W1 : World, W1 = ((((w.alloc (.cells #[.int .i64 xk, .string xn, .int .i64 xi, .slice a1 xa.length c1] 39)).alloc (.cells #[.int .i64 yk, .string yn, .int .i64 yi, .slice a2 ya.length c2] 39)).alloc (.cells #[.int .i64 r1, .int .i64 r2, .int .i64 r3, .int .i64 r4] 3))).drew := ⟨_, rfl⟩
  have hkW : Kept [] w W1 := by rw [hW1]; exact ((((Kept.refl [] w).alloc _).alloc _).alloc _).drew
  have hkV : Kept [] ((w.alloc (.cells #[.int .i64 xk, .string xn, .int .i64 xi, .slice a1 xa.length c1] 39)).alloc (.cells #[.int .i64 yk, .string yn, .int .i64 yi, .slice a2 ya.length c2] 39)) W1 := by rw [hW1]; exact ((Kept.refl [] _).alloc _).drew
  obtain ⟨z0, z1, z2, z3, y0, y1, y2, y3⟩ := HKF.out _ hkV
  rw [← hW1]
  clear hW1 z0 z1 z2 y0 y1 y2 HKF hkV
  go_loopw [5, 6] (fun q i wr => ∃ (r : Int) (k : Nat), q = .int .i64 r ∧ i = .int .i64 k ∧ k ≤ xa.length ∧ Kept [] W1 wr ∧ Hid (CmpAt (.mk xk xn xi xa) (.mk yk yn yi ya) k r)) (fun _ i _ => xa.length - (intOf i).toNat)
  case atStart => exact ⟨r, 0, rfl, rfl, Nat.zero_le _, Kept.refl _ _, HST.out⟩
  case round =>
    obtain ⟨r, k, rfl, rfl, hk, hkr, hat⟩ := hrel
    have x3 := hkr.cell' z3 (by simp)
    have v3 := hkr.cell' y3 (by simp)
    by_cases hr0 : r = 0
    · subst hr0
      by_cases hlt : k < xa.length
      · have hlen : xa.length = ya.length := by
          rcases hat.out with ⟨h, _⟩ | ⟨_, q4, _⟩
          · exact absurd rfl h
          · exact q4
        have hlt2 : k < ya.length := by omega
        clear hlen
        rcases d with _ | d
        · obtain ⟨h0, _⟩ := H.out
          rw [h0] at hlt
          simp at hlt
        · obtain ⟨_, hrd⟩ := H.out
          obtain ⟨_, hrd'⟩ := H'.out
          obtain ⟨_, _, he1, _, _, h5⟩ := hrd.form
          obtain ⟨_, _, he2, _, _, g5⟩ := hrd'.form
          have hne : xa ≠ [] := by rintro rfl; simp at hlt
          have hne' : ya ≠ [] := by rintro rfl; simp at hlt2
          obtain ⟨b1, o1, rfl, _, hb1, hc1⟩ := h5.resolve_left hne
          obtain ⟨b2, o2, rfl, _, hb2, hc2⟩ := g5.resolve_left hne'
          simp only [Value.slice.injEq] at he1 he2
          obtain ⟨rfl, _, rfl⟩ := he1
          obtain ⟨rfl, _, rfl⟩ := he2
          obtain ⟨x, hx⟩ : ∃ x, xa[k]? = some x := ⟨xa[k], by simp⟩
          obtain ⟨y, hy⟩ : ∃ y, ya[k]? = some y := ⟨ya[k], by simp⟩
          obtain ⟨q, hq1, hq2, hq3⟩ := hc1 k x hx
          obtain ⟨q', hq4, hq5, hq6⟩ := hc2 k y hy
          obtain ⟨qa, qc, rfl, _⟩ := hq3.form
          obtain ⟨qa', qc', rfl, _⟩ := hq6.form
          have hkk := hkW.trans hkr
          have m1 := hkk.range hq1 (by simp)
          have m2 := hkk.range hq4 (by simp)
          have HQ3 := Lib.hid ((TR.good d).kept hq3 hkk (by simp))
          have HQ6 := Lib.hid ((TR.good d).kept hq6 hkk (by simp))
          have HX := Lib.hid hx
          have HY := Lib.hid hy
          obtain ⟨tk, tn, ti, ta⟩ := x
          obtain ⟨sk, sn, si, sa⟩ := y
          simp only [Ty.row, Ty.kind, Ty.name, Ty.index, Ty.args] at m1 m2 HQ3 HQ6 ⊢
          have e0 : wr.cell? ⟨b1, o1 + k * 4, none⟩ = some (.int .i64 tk) := m1 0 _ rfl
          have e1 : wr.cell? ⟨b1, o1 + k * 4 + 1, none⟩ = some (.string tn) := m1 1 _ rfl
          have e2 : wr.cell? ⟨b1, o1 + k * 4 + 2, none⟩ = some (.int .i64 ti) := m1 2 _ rfl
          have e3 : wr.cell? ⟨b1, o1 + k * 4 + 3, none⟩ = some (.slice qa ta.length qc) := m1 3 _ rfl
          have f0 : wr.cell? ⟨b2, o2 + k * 4, none⟩ = some (.int .i64 sk) := m2 0 _ rfl
          have f1 : wr.cell? ⟨b2, o2 + k * 4 + 1, none⟩ = some (.string sn) := m2 1 _ rfl
          have f2 : wr.cell? ⟨b2, o2 + k * 4 + 2, none⟩ = some (.int .i64 si) := m2 2 _ rfl
          have f3 : wr.cell? ⟨b2, o2 + k * 4 + 3, none⟩ = some (.slice qa' sa.length qc') := m2 3 _ rfl
          clear m1 m2 hq1 hq2 hq3 hq4 hq5 hq6 hx hy hc1 hc2 hne hne' h5 g5 hrd hrd' H H' z3 y3
          have hlt' : (k : Int) < xa.length := by omega
          have hlt2' : (k : Int) < ya.length := by omega
          have hb1' : b1 < wr.heap.size := Nat.lt_of_lt_of_le hb1 hkk.size
          have hb2' : b2 < wr.heap.size := Nat.lt_of_lt_of_le hb2 hkk.size
          obtain ⟨wo, hwo⟩ : ∃ wo : World, wo = wr := ⟨_, rfl⟩
          subst hwo
          have HKF : Hid (∀ w', Kept [] wo w' → w'.cell? ⟨w.heap.size, 3, none⟩ = some (.slice (some ⟨b1, o1, none⟩) xa.length c1) ∧ w'.cell? ⟨w.heap.size + 1, 3, none⟩ = some (.slice (some ⟨b2, o2, none⟩) ya.length c2) ∧ w'.cell? ⟨b1, o1 + k * 4, none⟩ = some (.int .i64 tk) ∧ w'.cell? ⟨b1, o1 + k * 4 + 1, none⟩ = some (.string tn) ∧ w'.cell? ⟨b1, o1 + k * 4 + 2, none⟩ = some (.int .i64 ti) ∧ w'.cell? ⟨b1, o1 + k * 4 + 3, none⟩ = some (.slice qa ta.length qc) ∧ w'.cell? ⟨b2, o2 + k * 4, none⟩ = some (.int .i64 sk) ∧ w'.cell? ⟨b2, o2 + k * 4 + 1, none⟩ = some (.string sn) ∧ w'.cell? ⟨b2, o2 + k * 4 + 2, none⟩ = some (.int .i64 si) ∧ w'.cell? ⟨b2, o2 + k * 4 + 3, none⟩ = some (.slice qa' sa.length qc')) := Lib.hid (fun w' k => ⟨k.cell' x3 (by simp), k.cell' v3 (by simp), k.cell' e0 (by simp), k.cell' e1 (by simp), k.cell' e2 (by simp), k.cell' e3 (by simp), k.cell' f0 (by simp), k.cell' f1 (by simp), k.cell' f2 (by simp), k.cell' f3 (by simp)⟩)
          clear e0 e1 e2 e3 f0 f1 f2 f3
          go_wp2
          clear x3 v3
          go_region_held3 (fun w' => w'.cell? ⟨w.heap.size, 3, none⟩ = some (.slice (some ⟨b1, o1, none⟩) xa.length c1) ∧ w'.cell? ⟨w.heap.size + 1, 3, none⟩ = some (.slice (some ⟨b2, o2, none⟩) ya.length c2) ∧ w'.cell? ⟨b1, o1 + k * 4, none⟩ = some (.int .i64 tk) ∧ w'.cell? ⟨b1, o1 + k * 4 + 1, none⟩ = some (.string tn) ∧ w'.cell? ⟨b1, o1 + k * 4 + 2, none⟩ = some (.int .i64 ti) ∧ w'.cell? ⟨b1, o1 + k * 4 + 3, none⟩ = some (.slice qa ta.length qc) ∧ w'.cell? ⟨b2, o2 + k * 4, none⟩ = some (.int .i64 sk) ∧ w'.cell? ⟨b2, o2 + k * 4 + 1, none⟩ = some (.string sn) ∧ w'.cell? ⟨b2, o2 + k * 4 + 2, none⟩ = some (.int .i64 si) ∧ w'.cell? ⟨b2, o2 + k * 4 + 3, none⟩ = some (.slice qa' sa.length qc')) (first | exact HKF.out _ hk9 | exact HKF.out _ (by repeat (first | exact Kept.refl _ _ | refine Kept.drew ?_ | refine Kept.alloc ?_ _)))
            (first
              | (go_at_call 45; (refine Calls.mono (HIH.out d rfl S S' _ (.mk tk tn ti ta) (.mk sk sn si sa) (.slice qa ta.length qc) (.slice qa' sa.length qc') (by exact (TR.good d).kept HQ3.out ((Kept.refl [] wo).drew) (by simp)) (by exact (TR.good d).kept HQ6.out ((Kept.refl [] wo).drew) (by simp))) ?_; rintro e w2 ⟨r2, rfl, hr2, hk2⟩; have hk9 := Kept.trans (a := wo) ((Kept.refl [] wo).drew) hk2)))
          all_goals go_wp2
          all_goals
            go_roundw
            case rel => exact ⟨r2, k + 1, rfl, by go_num, by omega, hkr.trans hk9, hat.out.next rfl HX.out HY.out hr2⟩
            case measure => simp [intOf]; omega
      · have hfin := Lib.hid (hat.out.done (.inr hlt))
        go_wp2
        go_ret
        exact ⟨_, rfl, hfin.out, hkW.trans hkr⟩
    · have hr1 : (r == 0) = false := by simpa using hr0
      have hfin := Lib.hid (hat.out.done (.inl hr0))
      clear hr0
      go_wp2
      go_ret
      exact ⟨_, rfl, hfin.out, hkW.trans hkr⟩

theorem tyCompare : ∀ (d : Nat) (S S' : Nat → Prop) (w : World) (x y : Ty) (e e' : Value), TR d S w e x.args → TR d S' w e' y.args → Calls Tryz.prog 45 #[.agg #[.int .i64 x.kind, .string x.name, .int .i64 x.index, e], .agg #[.int .i64 y.kind, .string y.name, .int .i64 y.index, e']] w fun q w' => ∃ r : Int, q = .returned (.int .i64 r) ∧ IsCmp r x y ∧ Kept [] w w'
  | 0 => tyCompareAt 0 (fun d' h => by omega)
  | d + 1 => tyCompareAt (d + 1) (fun d' h => by obtain rfl : d = d' := by omega
                                                 exact tyCompare d)

end Go.Proofs.YtkldomkooleecaaGreatDoor
