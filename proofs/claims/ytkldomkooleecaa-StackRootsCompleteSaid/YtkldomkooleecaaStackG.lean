/- Walks: frames that are not pushed; Pop of an empty stack; Within. -/
import Derived.Test.YtkldomkooleecaaStackF
namespace Go.Proofs.Ytkldomkooleecaa
open Go.RowKit

set_option maxRecDepth 100000 in
set_option maxHeartbeats 1600000 in
theorem push_deep (d : Nat) {S : Nat → Prop} {g : Option Nat} (b : Nat) (l : List Frm) (x : Frm) (qa : Option Addr) (qc : Nat) (w : World) (h : Sk d S w b g l) (hx : okFrame x) (hl : 48 < l.length) :
    Calls Try.prog 21 #[.pointer (some ⟨b, 0, none⟩), .agg #[.int .i64 x.code, .int .i64 x.method, .int .i64 x.world, .int .i64 x.pc, .slice qa x.slots.length qc]] w fun e w' => e = .returned (.int .i64 9) ∧ Kept [] w w' := by
  obtain ⟨v, rfl, hb, hg⟩ := h
  obtain ⟨a, c, rfl, h1, h2⟩ := hg.shape
  have hbl := hb.lt
  have HB := Lib.hid hb
  have HX := Lib.hid hx
  clear hb hg hx
  go_enter Try.func21, Try.ntmps21
  go_wp2_with (first
    | (go_at_call 45; refine Calls.mono (valid_true x qa qc _ HX.out) ?_; rintro e w1 ⟨rfl, hk1⟩; have hk1' := ((Kept.refl [] w).alloc (.cells (x.row (.slice qa x.slots.length qc)).toArray 43)).trans hk1; have e0 := (HB.out.kept hk1' (by simp)).cell 0 _ rfl))
  go_ret
  exact ⟨rfl, hk1'⟩

set_option maxRecDepth 100000 in
set_option maxHeartbeats 1600000 in
theorem push_bad (b : Nat) (x : Frm) (qa : Option Addr) (qc : Nat) (w : World) (h1 : 0 ≤ x.code) (h2 : 0 ≤ x.method) (h3 : 0 ≤ x.pc) (hx : x.world < 1 ∨ 200 < x.slots.length) :
    Calls Try.prog 21 #[.pointer (some ⟨b, 0, none⟩), .agg #[.int .i64 x.code, .int .i64 x.method, .int .i64 x.world, .int .i64 x.pc, .slice qa x.slots.length qc]] w fun e w' => e = .returned (.int .i64 1) ∧ Kept [] w w' := by
  have HX := Lib.hid hx
  clear hx
  go_enter Try.func21, Try.ntmps21
  go_wp2_with (first
    | (go_at_call 45; refine Calls.mono (valid_false x qa qc _ (by exact h1) (by exact h2) (by exact h3) HX.out) ?_; rintro e w1 ⟨rfl, hk1⟩))
  go_ret
  exact ⟨rfl, ((Kept.refl [] w).alloc _).trans hk1⟩

set_option maxRecDepth 100000 in
set_option maxHeartbeats 1600000 in
theorem stackPop_none (d : Nat) {S : Nat → Prop} {g : Option Nat} (b : Nat) (w : World) (h : Sk d S w b g []) :
    Calls Try.prog 33 #[.pointer (some ⟨b, 0, none⟩)] w fun e w' => e = .returned (.tuple #[.agg #[.int .i64 0, .int .i64 0, .int .i64 0, .int .i64 0, .slice none 0 0], .bool false]) ∧ Kept [] w w' := by
  have H := Lib.hid h
  have hbl := h.lt
  clear h
  go_enter Try.func33, Try.ntmps33
  go_wp2_with (first
    | (go_at_call 49; refine Calls.mono (stackTop_none d b _ (by exact H.out.kept ((Kept.refl [] w).alloc _) (by simp) (by simp) (by simp))) ?_; rintro e w1 ⟨rfl, hk1⟩; have hb1 := (Blk.new w [.int .i64 0, .int .i64 0, .int .i64 0, .int .i64 0, .slice none 0 0] 43).kept hk1 (by simp); have hk1' := ((Kept.refl [] w).alloc (.cells #[.int .i64 0, .int .i64 0, .int .i64 0, .int .i64 0, .slice none 0 0] 43)).trans hk1; have hs2 := hk1.size; simp at hs2; obtain ⟨⟨i0, i1, i2, i3, i4⟩, j0, j1, j2, j3, j4⟩ := hb1.five; have HB1 := Lib.hid hb1; have hsl : w.heap.size < w1.heap.size := (by omega); clear hb1))
  have hkF : Kept [w.heap.size] w1 (((((((w1.setCell ⟨w.heap.size, 0, none⟩ (.int .i64 0)).setCell ⟨w.heap.size, 1, none⟩ (.int .i64 0)).setCell ⟨w.heap.size, 2, none⟩ (.int .i64 0)).setCell ⟨w.heap.size, 3, none⟩ (.int .i64 0)).setCell ⟨w.heap.size, 4, none⟩ (.slice none 0 0)).alloc (.cells #[.int .i64 0, .int .i64 0, .int .i64 0, .int .i64 0, .slice none 0 0] 43))) :=
    ((((((Kept.refl _ _).setCell (by simp) _).setCell (by simp) _).setCell (by simp) _).setCell (by simp) _).setCell (by simp) _).alloc _
  refine bodyPost_ret (results_blk_tmp rfl _ _ w.heap.size 43 [.int .i64 0, .int .i64 0, .int .i64 0, .int .i64 0, .slice none 0 0] _ (.bool false) rfl rfl (((((HB1.out.set 0 (.int .i64 0)).set 1 (.int .i64 0)).set 2 (.int .i64 0)).set 3 (.int .i64 0)).set 4 (.slice none 0 0) |>.kept ((Kept.refl [] _).alloc _) (by simp)) Try.underlying43 rfl (by kernel_rfl)) rfl ?_
  exact ⟨rfl, hk1'.trans' hkF (by simp)⟩

set_option maxRecDepth 100000 in
theorem within (v lo hi : Int) (w : World) (h1 : 0 ≤ lo) (h2 : lo < hi) (h3 : hi ≤ 1000) :
    Calls Try.prog 30 #[.int .i64 v, .int .i64 lo, .int .i64 hi] w fun e w' => ∃ r : Int, e = .returned (.int .i64 r) ∧ lo ≤ r ∧ r ≤ hi ∧ w' = w := by
  have hn : hi - lo + 1 ≠ 0 := by omega
  have hle : decide (hi ≤ lo) = false := by simp; omega
  have hm1 : v.tmod (hi - lo + 1) < hi - lo + 1 := Int.tmod_lt_of_pos v (by omega)
  have hm2 : -(hi - lo + 1) < v.tmod (hi - lo + 1) := by
    have e : v.tmod (hi - lo + 1) = -((-v).tmod (hi - lo + 1)) := by rw [Int.neg_tmod]; omega
    have := Int.tmod_lt_of_pos (-v) (show 0 < hi - lo + 1 by omega)
    omega
  by_cases hneg : v.tmod (hi - lo + 1) < 0
  · go_enter Try.func30, Try.ntmps30
    go_wp2
    go_ret
    exact ⟨_, rfl, by omega, by omega, rfl⟩
  · go_enter Try.func30, Try.ntmps30
    go_wp2
    go_ret
    exact ⟨_, rfl, by omega, by omega, rfl⟩
end Go.Proofs.Ytkldomkooleecaa
