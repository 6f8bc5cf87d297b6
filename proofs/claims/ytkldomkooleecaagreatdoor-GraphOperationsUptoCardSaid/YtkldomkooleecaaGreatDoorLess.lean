/- Walks: the comparison that MergeDeps hands to the sort. -/
import Derived.Test.YtkldomkooleecaaGreatDoorDOrd
import Derived.Test.YtkldomkooleecaaGreatDoorRefCmp
namespace Go.Proofs.YtkldomkooleecaaGreatDoor
open Go.RowKit

set_option maxRecDepth 100000 in
set_option maxHeartbeats 3200000 in
theorem lessCall (d : Nat) {S S' : Nat → Prop} (g cap ob n : Nat) (fx fy : ByteArray) (xk xi yk yi : Int) (xn yn : ByteArray) (xa ya : List Ty) (x1 y1 : Option Addr) (x2 y2 : Nat) (i j : Nat) (W : World)
    (hob : W.cell? ⟨ob, 0, none⟩ = some (.slice (some ⟨g, 0, none⟩) n cap))
    (hx : ∀ k v, ([.string fx, .int .i64 xk, .string xn, .int .i64 xi, .slice x1 xa.length x2] : List Value)[k]? = some v → W.cell? ⟨g, i * 7 + k, none⟩ = some v)
    (hy : ∀ k v, ([.string fy, .int .i64 yk, .string yn, .int .i64 yi, .slice y1 ya.length y2] : List Value)[k]? = some v → W.cell? ⟨g, j * 7 + k, none⟩ = some v)
    (tx : TR d S W (.slice x1 xa.length x2) xa) (ty : TR d S' W (.slice y1 ya.length y2) ya) (hi : i < n) (hj : j < n) (_hn : n ≤ 100000) :
    Calls Tryz.prog 44 #[.int .i64 i, .int .i64 j, .pointer (some ⟨ob, 0, none⟩)] W fun e w' => e = .returned (.bool (qLt ⟨fx, .mk xk xn xi xa, 0, []⟩ ⟨fy, .mk yk yn yi ya, 0, []⟩)) ∧ Kept [] W w' := by
  have x0 := hx 0 _ rfl
  have x1c := hx 1 _ rfl
  have x2c := hx 2 _ rfl
  have x3c := hx 3 _ rfl
  have x4c := hx 4 _ rfl
  have y0 := hy 0 _ rfl
  have y1c := hy 1 _ rfl
  have y2c := hy 2 _ rfl
  have y3c := hy 3 _ rfl
  have y4c := hy 4 _ rfl
  simp only [Nat.add_zero] at x0 y0
  have HTX := Lib.hid tx
  have HTY := Lib.hid ty
  clear hx hy tx ty
  go_enter Tryz.func44, Tryz.ntmps44
  go_upto_region 1 with (fail)
  have hnb := World.new_ne W _ hob
  have hng := World.new_ne W _ x0
  simp only at hnb hng
  go_region_held3 (fun w' => w'.cell? ⟨ob, 0, none⟩ = some (.slice (some ⟨g, 0, none⟩) n cap) ∧ w'.cell? ⟨g, i * 7, none⟩ = some (.string fx) ∧ w'.cell? ⟨g, i * 7 + 1, none⟩ = some (.int .i64 xk) ∧ w'.cell? ⟨g, i * 7 + 2, none⟩ = some (.string xn) ∧ w'.cell? ⟨g, i * 7 + 3, none⟩ = some (.int .i64 xi) ∧ w'.cell? ⟨g, i * 7 + 4, none⟩ = some (.slice x1 xa.length x2) ∧ w'.cell? ⟨g, j * 7, none⟩ = some (.string fy) ∧ w'.cell? ⟨g, j * 7 + 1, none⟩ = some (.int .i64 yk) ∧ w'.cell? ⟨g, j * 7 + 2, none⟩ = some (.string yn) ∧ w'.cell? ⟨g, j * 7 + 3, none⟩ = some (.int .i64 yi) ∧ w'.cell? ⟨g, j * 7 + 4, none⟩ = some (.slice y1 ya.length y2)) (go_keep) (fail)
  all_goals
    by_cases hf : fx = fy
    · subst hf
      have hbe : (fx.toList == fx.toList) = true := by simp
      have hq : qLt ⟨fx, .mk xk xn xi xa, 0, []⟩ ⟨fx, .mk yk yn yi ya, 0, []⟩ = decide (tyCmp (.mk xk xn xi xa) (.mk yk yn yi ya) < 0) := qLt_ty rfl
      have HQ := Lib.hid hq
      clear hq
      go_wp2_with (go_at_call 45; refine Calls.mono (tyCompare d S S' _ (.mk xk xn xi xa) (.mk yk yn yi ya) (.slice x1 xa.length x2) (.slice y1 ya.length y2) (by exact (TR.good d).kept HTX.out (((Kept.refl [] W).alloc _).alloc _).drew (by simp)) (by exact (TR.good d).kept HTY.out (((Kept.refl [] W).alloc _).alloc _).drew (by simp))) ?_; rintro e w1 ⟨r, rfl, hr, hk1⟩; have HR := Lib.hid hr; have HK1 := Lib.hid hk1; clear hr hk1)
      go_ret
      refine ⟨?_, (((Kept.refl [] W).alloc _).alloc _).drew.trans HK1.out⟩
      have := HR.out
      unfold IsCmp at this
      rw [HQ.out, ← this]
      rfl
    · have hbe : (fx.toList == fy.toList) = false := by
        cases hb : (fx.toList == fy.toList)
        · rfl
        · exact absurd (bytes_inj' (by simpa using hb)) hf
      have HQ := Lib.hid (qLt_fn (x := ⟨fx, .mk xk xn xi xa, 0, []⟩) (y := ⟨fy, .mk yk yn yi ya, 0, []⟩) hf)
      go_wp2
      go_ret
      exact ⟨by rw [HQ.out]; rfl, (((Kept.refl [] W).alloc _).alloc _).drew⟩
end Go.Proofs.YtkldomkooleecaaGreatDoor
