/- Walks: copies of lists of integers. -/
import Derived.Test.YtkldomkooleecaaGreatDoorOwnT
namespace Go.Proofs.YtkldomkooleecaaGreatDoor
open Go.RowKit

set_option maxRecDepth 100000 in
theorem ownInts {S : Nat → Prop} (v : Value) (l : List Int) (w : World) (h : Reads S w v 1 (irows l)) (hl : l.length ≤ 100000) : Calls Tryz.prog 23 #[v] w fun e w' => ∃ v', e = .returned v' ∧ Own w' w.heap.size 3 1 v' (irows l) ∧ Kept [] w w' := by
  have H := Lib.hid h
  obtain ⟨a1, c1, rfl, _, _, _⟩ := h.ints
  obtain ⟨i0, hi, hz0, hz1, hz2⟩ := info_parts info_int'
  clear h
  go_enter Tryz.func23, Tryz.ntmps23
  go_wp2_with (refine wpList_append_rows rfl (.const (.slice none 0 0)) (.tmp 3) 22 3 rfl i0 (.int .i64 0) 1 8 Tryz.underlying22 hi hz0 hz1 hz2 rfl (by decide) w.heap.size (.slice none 0 0) [] (irows l) rfl (Own.nil _ _ _ _) S (.slice a1 l.length c1) rfl H.out (by simp; omega) (by simp; omega) (Nat.le_refl _) ?_; intro v1 w1 ho1 hk1 _; have HO1 := Lib.hid ho1; have HK1 := Lib.hid hk1; clear ho1 hk1)
  go_ret
  exact ⟨_, rfl, by simpa using HO1.out, HK1.out [] (by intro x hx; simp [Value.ownBlock] at hx)⟩
end Go.Proofs.YtkldomkooleecaaGreatDoor
