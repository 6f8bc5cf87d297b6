/- Walks: Top and Pop of a stack of frames. -/
import Derived.Test.YtkldomkooleecaaStackD
namespace Go.Proofs.Ytkldomkooleecaa
open Go.RowKit

set_option maxRecDepth 100000 in
set_option maxHeartbeats 1600000 in
theorem stackTop (d : Nat) {S : Nat → Prop} {g : Option Nat} (b : Nat) (l : List Frm) (x : Frm) (w : World) (h : Sk d S w b g (l ++ [x])) :
    Calls Try.prog 49 #[.pointer (some ⟨b, 0, none⟩)] w fun e w' => ∃ e', e = .returned (.tuple #[.agg #[.int .i64 x.code, .int .i64 x.method, .int .i64 x.world, .int .i64 x.pc, e'], .bool true]) ∧ VR d (w.heap.size ≤ ·) w' e' x.slots ∧ Kept [] w w' := by
  obtain ⟨g', cap, q, rfl, hb, h1, h2, h3, h4, hr, hv, _⟩ := h.last
  obtain ⟨qa, qc, rfl, _, _, _⟩ := hv.form
  obtain ⟨n, hn⟩ : ∃ n, n = l.length := ⟨_, rfl⟩
  rw [← hn] at hb h1 hr
  clear hn h
  obtain ⟨xc, xm, xw, xp, xs⟩ := x
  simp only [Frm.row] at hr hv ⊢
  have hbl := hb.lt
  have e0 := hb.cell 0 _ rfl
  have e1 : w.cell? ⟨g', n * 5, none⟩ = some (.int .i64 xc) := hr 0 _ rfl
  have e2 : w.cell? ⟨g', n * 5 + 1, none⟩ = some (.int .i64 xm) := hr 1 _ rfl
  have e3 : w.cell? ⟨g', n * 5 + 2, none⟩ = some (.int .i64 xw) := hr 2 _ rfl
  have e4 : w.cell? ⟨g', n * 5 + 3, none⟩ = some (.int .i64 xp) := hr 3 _ rfl
  have e5 : w.cell? ⟨g', n * 5 + 4, none⟩ = some (.slice qa xs.length qc) := hr 4 _ rfl
  have HV := Lib.hid hv
  have hw1 : IntKind.i64.wrap ((n : Int) + 1 - 1) = n := by rw [Int.add_sub_cancel]; exact IntWalk.i64_in _ (by omega)
  have hw2 : IntKind.i64.wrap (n : Int) = n := IntWalk.i64_in _ (by omega)
  have hz : ((n : Int) + 1 == 0) = false := by rw [beq_eq_false_iff_ne]; omega
  have hlt : (n : Int) < (n : Int) + 1 := by omega
  clear hb hr hv
  go_enter Try.func49, Try.ntmps49
  go_wp2
  go_region_law ((first
    | (refine step_call rfl 46 Try.f46 Try.func46 (by kernel_rfl) (by kernel_rfl) _ _ rfl [.agg #[.int .i64 xc, .int .i64 xm, .int .i64 xw, .int .i64 xp, .slice qa xs.length qc]] rfl (ownFrame d ⟨xc, xm, xw, xp, xs⟩ (.slice qa xs.length qc) _ (by exact (VR.good d).kept HV.out (((Kept.refl [] w).alloc _).drew) (by simp))) (by rintro e w' ⟨e', rfl, _⟩; exact ⟨_, rfl⟩) ?_; rintro v2 w2 ⟨q2, hve, hv2, hk2⟩; cases hve; obtain ⟨q2a, q2c, rfl, _, _, _⟩ := hv2.form; have hb2 := ((Blk.new w [.int .i64 0, .int .i64 0, .int .i64 0, .int .i64 0, .slice none 0 0] 43).kept ((Kept.refl [] _).drew) (by simp)).kept hk2 (by simp); obtain ⟨⟨i0, i1, i2, i3, i4⟩, j0, j1, j2, j3, j4⟩ := hb2.five; have HB2 := Lib.hid hb2; have HV2 := Lib.hid hv2; clear hv2 hb2)))
  all_goals go_wp2
  all_goals
    have hb2 := HB2.out
    refine bodyPost_ret (results_blk_tmp rfl _ _ w.heap.size 43 [.int .i64 xc, .int .i64 xm, .int .i64 xw, .int .i64 xp, .slice q2a xs.length q2c] _ (.bool true) rfl rfl (((((hb2.set 0 (.int .i64 xc)).set 1 (.int .i64 xm)).set 2 (.int .i64 xw)).set 3 (.int .i64 xp)).set 4 (.slice q2a xs.length q2c)) Try.underlying43 rfl (by kernel_rfl)) rfl ?_
    have hkF : Kept [w.heap.size] w2 (((((w2.setCell ⟨w.heap.size, 0, none⟩ (.int .i64 xc)).setCell ⟨w.heap.size, 1, none⟩ (.int .i64 xm)).setCell ⟨w.heap.size, 2, none⟩ (.int .i64 xw)).setCell ⟨w.heap.size, 3, none⟩ (.int .i64 xp)).setCell ⟨w.heap.size, 4, none⟩ (.slice q2a xs.length q2c)) :=
      (((((Kept.refl _ w2).setCell (by simp) _).setCell (by simp) _).setCell (by simp) _).setCell (by simp) _).setCell (by simp) _
    exact ⟨_, rfl, (VR.good d).mono ((VR.good d).kept HV2.out hkF (by simp)) (fun b _ hb => by simp at hb; omega), ((((Kept.refl [] w).alloc _).drew).trans hk2).trans' hkF (by simp)⟩

set_option maxRecDepth 100000 in
theorem stackTop_none (d : Nat) {S : Nat → Prop} {g : Option Nat} (b : Nat) (w : World) (h : Sk d S w b g []) :
    Calls Try.prog 49 #[.pointer (some ⟨b, 0, none⟩)] w fun e w' => e = .returned (.tuple #[.agg #[.int .i64 0, .int .i64 0, .int .i64 0, .int .i64 0, .slice none 0 0], .bool false]) ∧ Kept [] w w' := by
  obtain ⟨a1, c1, e0, _, _, _, _⟩ := h.form
  have hbl := h.lt
  simp only [List.length_nil] at e0
  clear h
  go_enter Try.func49, Try.ntmps49
  go_wp2
  refine bodyPost_ret (results_blk_tmp rfl _ _ w.heap.size 43 [.int .i64 0, .int .i64 0, .int .i64 0, .int .i64 0, .slice none 0 0] _ (.bool false) rfl rfl (Blk.new _ _ _) Try.underlying43 rfl (by kernel_rfl)) rfl ?_
  exact ⟨rfl, (Kept.refl [] w).alloc _⟩

set_option maxRecDepth 100000 in
set_option maxHeartbeats 1600000 in
theorem stackPop (d : Nat) {S : Nat → Prop} {g : Option Nat} (b : Nat) (l : List Frm) (x : Frm) (w : World) (h : Sk d S w b g (l ++ [x])) (hSb : ¬ S b) :
    Calls Try.prog 33 #[.pointer (some ⟨b, 0, none⟩)] w fun e w' => ∃ e', e = .returned (.tuple #[.agg #[.int .i64 x.code, .int .i64 x.method, .int .i64 x.world, .int .i64 x.pc, e'], .bool true]) ∧ VR d (w.heap.size ≤ ·) w' e' x.slots ∧ Sk d S w' b g l ∧ Kept [b] w w' := by
  have h := h.mono (S' := fun y => S y ∧ y < w.heap.size) (fun _ hx hs => ⟨hs, hx⟩)
  obtain ⟨g', cap, q, rfl, hb, h1, h2, h3, h4, _, _, hg⟩ := h.last
  have H := Lib.hid h
  have HB := Lib.hid hb
  have HG := Lib.hid hg
  have hbl := hb.lt
  have hwn : IntKind.i64.wrap ((l.length : Int) + 1 - 1) = l.length := by rw [Int.add_sub_cancel]; exact IntWalk.i64_in _ (by omega)
  have hwn2 : IntKind.i64.wrap (l.length : Int) = l.length := IntWalk.i64_in _ (by omega)
  clear h hb hg
  go_enter Try.func33, Try.ntmps33
  go_wp2_with (first
    | (go_at_call 49; refine Calls.mono (stackTop d b l x _ (by exact H.out.kept ((Kept.refl [] w).alloc _) (by simp) (by simp) (by simp))) ?_; rintro e w1 ⟨q1, rfl, hv1, hk1⟩; obtain ⟨q1a, q1c, rfl, _, _, _⟩ := hv1.form; have hb1 := (Blk.new w [.int .i64 0, .int .i64 0, .int .i64 0, .int .i64 0, .slice none 0 0] 43).kept hk1 (by simp); have hk1' := ((Kept.refl [] w).alloc (.cells #[.int .i64 0, .int .i64 0, .int .i64 0, .int .i64 0, .slice none 0 0] 43)).trans hk1; have hs1 := hk1'.size; have hs2 := hk1.size; simp at hs2; have HV1 := Lib.hid hv1; obtain ⟨⟨i0, i1, i2, i3, i4⟩, j0, j1, j2, j3, j4⟩ := hb1.five; have HB1 := Lib.hid hb1; have hsl : w.heap.size < w1.heap.size := (by omega); have hbk := HB.out.kept hk1' (by simp); have e0 := hbk.cell 0 _ rfl; have f0 := hbk.frozen 0; have HBK := Lib.hid hbk; have hb1l : b < w1.heap.size := (by omega); clear hbk hv1 hb1))
  go_region
  all_goals go_wp2
  all_goals
    have hsk := Sk.popped HB.out HG.out hk1' (fun h => hSb h.1)
    have hkF : Kept [w.heap.size] (w1.setCell ⟨b, 0, none⟩ (.slice (some ⟨g', 0, none⟩) l.length cap)) (((((((w1.setCell ⟨b, 0, none⟩ (.slice (some ⟨g', 0, none⟩) l.length cap)).setCell ⟨w.heap.size, 0, none⟩ (.int .i64 x.code)).setCell ⟨w.heap.size, 1, none⟩ (.int .i64 x.method)).setCell ⟨w.heap.size, 2, none⟩ (.int .i64 x.world)).setCell ⟨w.heap.size, 3, none⟩ (.int .i64 x.pc)).setCell ⟨w.heap.size, 4, none⟩ (.slice q1a x.slots.length q1c)).alloc (.cells #[.int .i64 x.code, .int .i64 x.method, .int .i64 x.world, .int .i64 x.pc, .slice q1a x.slots.length q1c] 43)).drew :=
      (((((((Kept.refl _ _).setCell (by simp) _).setCell (by simp) _).setCell (by simp) _).setCell (by simp) _).setCell (by simp) _).alloc _).drew
    have hkB : Kept [b] w1 (w1.setCell ⟨b, 0, none⟩ (.slice (some ⟨g', 0, none⟩) l.length cap)) := (Kept.refl _ _).setCell (by simp) _
    refine bodyPost_ret (results_blk_tmp rfl _ _ w.heap.size 43 [.int .i64 x.code, .int .i64 x.method, .int .i64 x.world, .int .i64 x.pc, .slice q1a x.slots.length q1c] _ (.bool true) rfl rfl ((((((HB1.out.far (p := ⟨b, 0, none⟩) (by simp; omega) (.slice (some ⟨g', 0, none⟩) l.length cap)).set 0 (.int .i64 x.code)).set 1 (.int .i64 x.method)).set 2 (.int .i64 x.world)).set 3 (.int .i64 x.pc)).set 4 (.slice q1a x.slots.length q1c) |>.kept (((Kept.refl [] _).alloc _).drew) (by simp)) Try.underlying43 rfl (by kernel_rfl)) rfl ?_
    refine ⟨_, rfl, (VR.good d).mono ((VR.good d).kept ((VR.good d).kept HV1.out hkB (by simp; omega)) hkF (by simp)) (fun b _ hb => by simp at hb; omega), (hsk.kept hkF (by simp; omega) (by simp; omega) (by simp)).mono (fun _ _ h => h.1), (hk1'.nil.trans' hkB (by simp)).trans' hkF (by simp)⟩
end Go.Proofs.Ytkldomkooleecaa
