/- Walks: stacks of frames: New, Len, Push. -/
import Derived.Test.YtkldomkooleecaaOwnF
import Derived.Test.YtkldomkooleecaaSane
namespace Go.Proofs.Ytkldomkooleecaa
open Go.RowKit

/-- A call of a Go function as a step of a region that draws its order: by its contract. -/
theorem step_call {P : Program} {ops : Array Oper} {o : Oper} {a : Act} {w : World} {K : Act → World → Prop} {Q : Exit → Act → World → Prop} {E : Prop} {R : Ending → World → Prop}
    (hg : o.guard = none) (f : FuncId) (fn : Func) (hf : P.funcs[f]? = some fn) (hn : (fn.name == "runtime.NumGoroutine") = false) (hb : fn.body.isNone = false) (args : List Operand) (ts : Array TypeId) (ho : o.op = .call { callee := .value (.func f), args := args.toArray, argTypes := ts })
    (vals : List Value) (hv : args.map a.eval = vals) (h : Calls P f vals.toArray w R) (hR : ∀ e w', R e w' → ∃ v, e = .returned v) (hK : ∀ v w', R (.returned v) w' → K (a.put o.dst v) w') :
    if Region.wanted o (yielded ops a.tmps) = true then Oper.wp P o a w K Q else E := by
  have hw : Region.wanted o (yielded ops a.tmps) = true := by simp [Region.wanted, hg]
  rw [if_pos hw]
  have he : (execOp a.eval o).run P w = .ok (.enter f vals.toArray) w := by
    subst hv
    simp [execOp, ho, resolve, Deferred.ofValue, invoke, Act.eval]
    simp [callFunc, hf, hb, program, Sem.run, Result.andThen, beq_eq_false_iff_ne.1 hn]
    intro h0; simp [h0] at hb
  unfold Oper.wp
  rw [he, Oper.upon_enter]
  refine h.mono fun e w' hr => ?_
  obtain ⟨v, rfl⟩ := hR e w' hr
  exact hK v w' hr

/-- A stack of frames lies at b; g: the block of its row; S: where its frames' values lie. -/
def Sk (d : Nat) (S : Nat → Prop) (w : World) (b : Nat) (g : Option Nat) (l : List Frm) : Prop :=
  ∃ v, v.ownBlock = g ∧ Blk w b [v] 90 ∧ Gr (fun S w e (x : Frm) => VR d S w e x.slots) Frm.row 5 43 S (b + 1) w v l

theorem Sk.kept {d : Nat} {S : Nat → Prop} {w w' : World} {b : Nat} {g : Option Nat} {l : List Frm} {M : List Nat} (h : Sk d S w b g l) (k : Kept M w w') (h1 : b ∉ M) (h2 : ∀ x ∈ M, g ≠ some x) (h3 : ∀ x ∈ M, ¬ S x) : Sk d S w' b g l := by
  obtain ⟨v, rfl, hb, hg⟩ := h
  exact ⟨v, rfl, hb.kept k h1, hg.kept (VR.goodAt d Frm.slots) k h2 h3⟩
theorem Sk.mono {d : Nat} {S S' : Nat → Prop} {w : World} {b : Nat} {g : Option Nat} {l : List Frm} (h : Sk d S w b g l) (hs : ∀ x, x < w.heap.size → S x → S' x) : Sk d S' w b g l := by
  obtain ⟨v, rfl, hb, hg⟩ := h
  exact ⟨v, rfl, hb, hg.mono (VR.goodAt d Frm.slots) (Nat.le_refl _) hs⟩
theorem Sk.lt {d : Nat} {S : Nat → Prop} {w : World} {b : Nat} {g : Option Nat} {l : List Frm} (h : Sk d S w b g l) : b < w.heap.size := by obtain ⟨v, _, hb, _⟩ := h; exact hb.lt

set_option maxRecDepth 100000 in
theorem newStack (d : Nat) (w : World) : Calls Try.prog 20 #[] w fun e w' => e = .returned (.pointer (some ⟨w.heap.size, 0, none⟩)) ∧ Sk d (fun _ => False) w' w.heap.size none [] ∧ Kept [] w w' := by
  go_enter Try.func20, Try.ntmps20
  go_wp2
  go_ret
  exact ⟨rfl, ⟨_, rfl, Blk.new w [.slice none 0 0] _, Gr.nil _ _ _⟩, (Kept.refl _ _).alloc _⟩

set_option maxRecDepth 100000 in
theorem stackLen (d : Nat) {S : Nat → Prop} {g : Option Nat} (b : Nat) (l : List Frm) (w : World) (h : Sk d S w b g l) : Calls Try.prog 31 #[.pointer (some ⟨b, 0, none⟩)] w fun e w' => e = .returned (.int .i64 l.length) ∧ Kept [] w w' := by
  obtain ⟨v, rfl, hb, hg⟩ := h
  obtain ⟨a, c, rfl, h1, h2⟩ := hg.shape
  have e0 := hb.cell 0 _ rfl
  clear hb hg
  go_enter Try.func31, Try.ntmps31
  go_wp2
  go_ret
  exact ⟨rfl, Kept.refl _ _⟩

set_option maxRecDepth 100000 in
set_option maxHeartbeats 3200000 in
theorem push (d : Nat) {S S' : Nat → Prop} {g : Option Nat} (b : Nat) (l : List Frm) (x : Frm) (q : Value) (w : World) (h : Sk d S w b g l) (hx : okFrame x) (hq : VR d S' w q x.slots) (hSb : ¬ S b) (hl : l.length ≤ 48) :
    Calls Try.prog 21 #[.pointer (some ⟨b, 0, none⟩), .agg #[.int .i64 x.code, .int .i64 x.method, .int .i64 x.world, .int .i64 x.pc, q]] w fun e w' => ∃ g', e = .returned (.int .i64 0) ∧
      Sk d (fun y => S y ∨ w.heap.size ≤ y) w' b g' (l ++ [x]) ∧ Kept (b :: g.toList) w w' ∧ (g' = g ∨ ∃ y, g' = some y ∧ w.heap.size ≤ y) := by
  obtain ⟨v, rfl, hb, hg⟩ := h
  obtain ⟨a, c, rfl, h1, h2⟩ := hg.shape
  obtain ⟨qa, qc, rfl, _, _, _⟩ := hq.form
  obtain ⟨i0, z0, hi, hz0, hz1, hz2, hz3⟩ := info_frame'
  have hbl := hb.lt
  have e0 := hb.cell 0 _ rfl
  have HB := Lib.hid hb
  have HG := Lib.hid hg
  have HQ := Lib.hid hq
  have HX := Lib.hid hx
  clear hb hg hq hx
  go_enter Try.func21, Try.ntmps21
  go_wp2_with (first
    | (go_at_call 45; refine Calls.mono (valid_true x qa qc _ HX.out) ?_; rintro e w1 ⟨rfl, hk1⟩; have hk1' := ((Kept.refl [] w).alloc (.cells (x.row (.slice qa x.slots.length qc)).toArray 43)).trans hk1; have HB1 := Lib.hid (HB.out.kept hk1' (by simp)); have e0 := HB1.out.cell 0 _ rfl; have f0 := HB1.out.frozen 0; have hz1' := hk1'.size; have HQ1 := Lib.hid ((VR.good d).kept HQ.out hk1' (by simp)); obtain ⟨⟨c0, c1, c2, c3, c4⟩, _⟩ := ((Blk.new w (x.row (.slice qa x.slots.length qc)) 43).kept hk1 (by simp)).five))
  obtain ⟨es, n1, n2, n3⟩ := HG.out
  have hlen : (List.zipWith Frm.row l es).length = l.length := zip_len n1
  have n2lt := n2.lt
  have N2 := Lib.hid (n2.kept hk1' (by simp))
  have N3 := Lib.hid (fun (k : Nat) (y : Frm) (e : Value) (hy : l[k]? = some y) (he : es[k]? = some e) => (VR.good d).kept (n3 k y e hy he) hk1' (by simp))
  clear n2 n3
  go_region_law ((first
    | (refine step_call rfl 46 Try.f46 Try.func46 (by kernel_rfl) (by kernel_rfl) _ _ rfl [.agg #[.int .i64 x.code, .int .i64 x.method, .int .i64 x.world, .int .i64 x.pc, .slice qa x.slots.length qc]] rfl (ownFrame d x (.slice qa x.slots.length qc) _ (by exact (VR.good d).kept HQ1.out ((Kept.refl [] w1).drew) (by simp))) (by rintro e w' ⟨e', rfl, _⟩; exact ⟨_, rfl⟩) ?_; rintro v2 w2 ⟨q2, hve, hv2, hk2⟩; cases hve; obtain ⟨q2a, q2c, rfl, _, _, _⟩ := hv2.form; have hk2 := ((Kept.refl [] w1).drew).trans hk2; have HB2 := Lib.hid (HB1.out.kept hk2 (by simp)); have e0 := HB2.out.cell 0 _ rfl; have f0 := HB2.out.frozen 0; have NN2 := Lib.hid (N2.out.kept hk2 (by simp)); have HV2 := Lib.hid hv2; have hz2' := hk2.size; have hb2l : b < w2.heap.size := (by omega); clear hv2)
    | (refine step_append_rows rfl (.tmp 18) (.tmp 21) 25 43 rfl i0 z0 5 56 Try.underlying25 hi hz0 hz1 hz2 hz3 (by decide) (b + 1) (.slice a l.length c) (List.zipWith Frm.row l es) [x.row (.slice q2a x.slots.length q2c)] rfl (NN2.out.kept ((Kept.refl [] w2).alloc _) (by simp)) (fun _ => True) (.slice (some ⟨w2.heap.size, 0, none⟩) 1 1) rfl (lit_rows [x.row (.slice q2a x.slots.length q2c)] (halloc_new _ _ _ rfl) (by simp [Frm.row, Value.oneCell']) (by simp)) (by rw [hlen]; simp; omega) (by rw [hlen]; simp; omega) (by simp; omega) ?_; intro v3 w3 ho3 hk3 hl3; have hk3' := hk3 (Value.slice a l.length c).ownBlock.toList (by intro y hy; simp [hy]); have HO3 := Lib.hid ho3; have HK3 := Lib.hid hk3; have HL3 := Lib.hid hl3; have HB3 := Lib.hid ((HB2.out.kept ((Kept.refl [] w2).alloc _) (by simp)).kept hk3' (by intro hy; have := (NN2.out.lt b (by simpa using hy)).1; omega)); have e0 := HB3.out.cell 0 _ rfl; have f0 := HB3.out.frozen 0; obtain ⟨a3, c3', e3, _⟩ := ho3.shape; rw [List.length_append, hlen, List.length_singleton] at e3; subst e3; clear ho3 hk3 hl3)))
  all_goals go_wp2
  all_goals
    go_ret
    have hlo := NN2.out.lt
    have hk3 := HK3.out (Value.slice a l.length c).ownBlock.toList (by intro y hy; simp [hy])
    have hk23 := ((Kept.refl [] w2).alloc (.cells (x.row (.slice q2a x.slots.length q2c)).toArray 43))
    have hgr : Gr (fun S w e (x : Frm) => VR d S w e x.slots) Frm.row 5 43 (fun y => S y ∨ w.heap.size ≤ y) (b + 1) w3 _ (l ++ [x]) :=
      Gr.snoc (VR.goodAt d Frm.slots) n1
        (fun k y e hy he => (VR.good d).mono ((VR.good d).kept ((VR.good d).kept (N3.out k y e hy he) hk2 (by simp)) hk23 (by simp)) (fun _ _ h => ⟨.inl h.1, h.2⟩))
        ((VR.good d).mono ((VR.good d).kept HV2.out hk23 (by simp)) (fun y _ hy => by simp at hy; exact ⟨.inr (by omega), fun e => by have := (n2lt y e).2; omega⟩))
        HO3.out HK3.out HL3.out
    refine ⟨_, rfl, ⟨_, rfl, HB3.out.set 0 _, hgr.kept (VR.goodAt d Frm.slots) ((Kept.refl [b] w3).setCell (by simp) _) (by intro y hy e; simp at hy; subst hy; have := (hgr.lt _ e).1; omega) (by intro y hy; simp at hy; subst hy; intro h; rcases h with h | h; exact hSb h; omega)⟩, ?_, ?_⟩
    · exact (((hk1'.trans hk2).nil.alloc _).trans' hk3 (by intro y hy; exact .inl (by simp at hy ⊢; exact .inr hy))).setCell (by simp) _
    · rcases HL3.out with h | ⟨y, hy, hge⟩
      · exact .inl h
      · refine .inr ⟨y, hy, ?_⟩
        simp at hge
        omega
end Go.Proofs.Ytkldomkooleecaa
