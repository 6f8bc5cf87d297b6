/- Walks: deep copies of frames; which frames are valid. -/
import Derived.Test.YtkldomkooleecaaOwnV
namespace Go.Proofs.Ytkldomkooleecaa
open Go.RowKit

/-- A frame with its slots' values. -/
structure Frm where
  code : Int
  method : Int
  world : Int
  pc : Int
  slots : List Vl
def Frm.row (x : Frm) (e : Value) : List Value := [.int .i64 x.code, .int .i64 x.method, .int .i64 x.world, .int .i64 x.pc, e]

theorem Blk.five {w : World} {b : Nat} {t : TypeId} {x0 x1 x2 x3 x4 : Value} (h : Blk w b [x0, x1, x2, x3, x4] t) : (w.cell? ⟨b, 0, none⟩ = some x0 ∧ w.cell? ⟨b, 1, none⟩ = some x1 ∧ w.cell? ⟨b, 2, none⟩ = some x2 ∧ w.cell? ⟨b, 3, none⟩ = some x3 ∧ w.cell? ⟨b, 4, none⟩ = some x4) ∧ w.frozen? ⟨b, 0, none⟩ = false ∧ w.frozen? ⟨b, 1, none⟩ = false ∧ w.frozen? ⟨b, 2, none⟩ = false ∧ w.frozen? ⟨b, 3, none⟩ = false ∧ w.frozen? ⟨b, 4, none⟩ = false :=
  ⟨⟨h.cell 0 _ rfl, h.cell 1 _ rfl, h.cell 2 _ rfl, h.cell 3 _ rfl, h.cell 4 _ rfl⟩, h.frozen 0, h.frozen 1, h.frozen 2, h.frozen 3, h.frozen 4⟩

set_option maxRecDepth 100000 in
set_option maxHeartbeats 1600000 in
theorem ownFrame (d : Nat) {S : Nat → Prop} (x : Frm) (e : Value) (w : World) (h : VR d S w e x.slots) :
    Calls Try.prog 46 #[.agg #[.int .i64 x.code, .int .i64 x.method, .int .i64 x.world, .int .i64 x.pc, e]] w fun q w' => ∃ e', q = .returned (.agg #[.int .i64 x.code, .int .i64 x.method, .int .i64 x.world, .int .i64 x.pc, e']) ∧ VR d (w.heap.size ≤ ·) w' e' x.slots ∧ Kept [] w w' := by
  obtain ⟨xc, xm, xw, xp, xe⟩ := x
  obtain ⟨a1, c1, rfl, h1, h2, h3⟩ := h.form
  have H := Lib.hid h
  clear h
  go_enter Try.func46, Try.ntmps46
  go_wp2_with (first
    | (go_at_call 55; refine Calls.mono (ownValues d S _ _ xe (by exact (VR.good d).kept H.out (((Kept.refl [] w).alloc _).alloc _) (by simp))) ?_; rintro q w1 ⟨v1, rfl, hv1, hk1⟩; obtain ⟨a2, c2, rfl, _, _, _⟩ := hv1.form; obtain ⟨⟨e0, e1, e2, e3, e4⟩, f0, f1, f2, f3, f4⟩ := ((Blk.old w [.int .i64 xc, .int .i64 xm, .int .i64 xw, .int .i64 xp, .slice a1 xe.length c1] 43 _).kept hk1 (by simp)).five; obtain ⟨⟨i0, i1, i2, i3, i4⟩, j0, j1, j2, j3, j4⟩ := ((Blk.new (w.alloc (.cells #[.int .i64 xc, .int .i64 xm, .int .i64 xw, .int .i64 xp, .slice a1 xe.length c1] 43)) [.int .i64 0, .int .i64 0, .int .i64 0, .int .i64 0, .slice none 0 0] 43).kept hk1 (by simp)).five; have hb2 := (Blk.new (w.alloc (.cells #[.int .i64 xc, .int .i64 xm, .int .i64 xw, .int .i64 xp, .slice a1 xe.length c1] 43)) [.int .i64 0, .int .i64 0, .int .i64 0, .int .i64 0, .slice none 0 0] 43).kept hk1 (by simp); have HB2 := Lib.hid hb2; clear hb2; simp only [World.size_alloc] at i0 i1 i2 i3 i4 j0 j1 j2 j3 j4; have HV1 := Lib.hid hv1; clear hv1))
  have hb2 := HB2.out
  simp only [World.size_alloc] at hb2
  refine bodyPost_ret (results_blk rfl _ _ (w.heap.size + 1) 43 [.int .i64 xc, .int .i64 xm, .int .i64 xw, .int .i64 xp, .slice a2 xe.length c2] _ rfl ((((((hb2.far (p := ⟨w.heap.size, 4, none⟩) (by simp) (.slice a2 xe.length c2)).set 0 (.int .i64 xc)).set 1 (.int .i64 xm)).set 2 (.int .i64 xw)).set 3 (.int .i64 xp)).set 4 (.slice a2 xe.length c2)) Try.underlying43 rfl (by kernel_rfl)) rfl ?_
  have hkF : Kept [w.heap.size, w.heap.size + 1] w1 ((((((w1.setCell ⟨w.heap.size, 4, none⟩ (.slice a2 xe.length c2)).setCell ⟨w.heap.size + 1, 0, none⟩ (.int .i64 xc)).setCell ⟨w.heap.size + 1, 1, none⟩ (.int .i64 xm)).setCell ⟨w.heap.size + 1, 2, none⟩ (.int .i64 xw)).setCell ⟨w.heap.size + 1, 3, none⟩ (.int .i64 xp)).setCell ⟨w.heap.size + 1, 4, none⟩ (.slice a2 xe.length c2)) :=
    ((((((Kept.refl _ w1).setCell (by simp) _).setCell (by simp) _).setCell (by simp) _).setCell (by simp) _).setCell (by simp) _).setCell (by simp) _
  exact ⟨_, rfl, (VR.good d).mono ((VR.good d).kept HV1.out hkF (by simp; omega)) (fun b _ hb => by simp at hb; omega), ((((Kept.refl [] w).alloc _).alloc _).trans hk1).trans' hkF (by simp)⟩

/-- May the frame be on a stack? -/
def okFrame (x : Frm) : Prop := 0 ≤ x.code ∧ 0 ≤ x.method ∧ 0 ≤ x.pc ∧ 1 ≤ x.world ∧ x.slots.length ≤ 200

set_option maxRecDepth 100000 in
set_option maxHeartbeats 1600000 in
theorem valid_true (x : Frm) (a : Option Addr) (c : Nat) (w : World) (h : okFrame x) :
    Calls Try.prog 45 #[.agg #[.int .i64 x.code, .int .i64 x.method, .int .i64 x.world, .int .i64 x.pc, .slice a x.slots.length c]] w fun q w' => q = .returned (.bool true) ∧ Kept [] w w' := by
  obtain ⟨h1, h2, h3, h4, h5⟩ := h
  go_enter Try.func45, Try.ntmps45
  go_wp2
  go_ret
  exact ⟨by simp; omega, (Kept.refl _ _).alloc _⟩

set_option maxRecDepth 100000 in
set_option maxHeartbeats 1600000 in
/-- A frame of the world 0 is not. -/
theorem valid_false (x : Frm) (a : Option Addr) (c : Nat) (w : World) (h1 : 0 ≤ x.code) (h2 : 0 ≤ x.method) (h3 : 0 ≤ x.pc) (h : x.world < 1 ∨ 200 < x.slots.length) :
    Calls Try.prog 45 #[.agg #[.int .i64 x.code, .int .i64 x.method, .int .i64 x.world, .int .i64 x.pc, .slice a x.slots.length c]] w fun q w' => q = .returned (.bool false) ∧ Kept [] w w' := by
  by_cases h4 : x.world < 1
  · have h4' : ¬ 1 ≤ x.world := by omega
    have h4'' : decide (1 ≤ x.world) = false := by simpa using h4
    go_enter Try.func45, Try.ntmps45
    go_wp2
    go_ret
    exact ⟨rfl, (Kept.refl _ _).alloc _⟩
  · have h4' : 1 ≤ x.world := by omega
    have h5 : 200 < x.slots.length := by omega
    go_enter Try.func45, Try.ntmps45
    go_wp2
    go_ret
    exact ⟨by simp; omega, (Kept.refl _ _).alloc _⟩
end Go.Proofs.Ytkldomkooleecaa
