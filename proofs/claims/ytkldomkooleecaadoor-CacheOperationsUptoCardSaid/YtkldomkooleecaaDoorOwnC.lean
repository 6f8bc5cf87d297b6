/- Walks: deep copies of compiled codes without instructions. -/
import Derived.Test.YtkldomkooleecaaDoorOwnT
namespace Go.Proofs.YtkldomkooleecaaDoor
open Go.RowKit

set_option maxRecDepth 100000 in
theorem ownDeps_nil (a : Option Addr) (c : Nat) (w : World) : Calls Tryd.prog 42 #[.slice a 0 c] w fun e w' => e = .returned (.slice none 0 0) ∧ w' = w := by
  go_enter Tryd.func42, Tryd.ntmps42
  go_wp2
  go_loop [3, 8] (fun v i => v = .slice none 0 0 ∧ i = .int .i64 0) (fun _ _ => 0)
  case atStart => exact ⟨rfl, rfl⟩
  case round =>
    obtain ⟨rfl, rfl⟩ := hrel
    go_wp2
    go_ret
    exact ⟨rfl, rfl⟩
set_option maxRecDepth 100000 in
theorem ownInstrs_nil (a : Option Addr) (c : Nat) (w : World) : Calls Tryd.prog 53 #[.slice a 0 c] w fun e w' => e = .returned (.slice none 0 0) ∧ w' = w := by
  go_enter Tryd.func53, Tryd.ntmps53
  go_wp2
  go_loop [3, 8] (fun v i => v = .slice none 0 0 ∧ i = .int .i64 0) (fun _ _ => 0)
  case atStart => exact ⟨rfl, rfl⟩
  case round =>
    obtain ⟨rfl, rfl⟩ := hrel
    go_wp2
    go_ret
    exact ⟨rfl, rfl⟩
set_option maxRecDepth 100000 in
theorem ownEditLists_nil (a : Option Addr) (c : Nat) (w : World) : Calls Tryd.prog 54 #[.slice a 0 c] w fun e w' => e = .returned (.slice none 0 0) ∧ w' = w := by
  go_enter Tryd.func54, Tryd.ntmps54
  go_wp2
  go_loop [3, 8] (fun v i => v = .slice none 0 0 ∧ i = .int .i64 0) (fun _ _ => 0)
  case atStart => exact ⟨rfl, rfl⟩
  case round =>
    obtain ⟨rfl, rfl⟩ := hrel
    go_wp2
    go_ret
    exact ⟨rfl, rfl⟩

set_option maxRecDepth 100000 in
set_option maxHeartbeats 1600000 in
theorem ownCode_nil (a b : Int) (w : World) : Calls Tryd.prog 41 #[.agg #[.int .i64 a, .int .i64 b, .slice none 0 0, .slice none 0 0]] w fun e w' => e = .returned (.agg #[.int .i64 a, .int .i64 b, .slice none 0 0, .slice none 0 0]) ∧ Kept [] w w' := by
  go_enter Tryd.func41, Tryd.ntmps41
  go_wp2_with (first
    | (go_at_call 53; refine Calls.mono (ownInstrs_nil none 0 _) ?_; rintro e w1 ⟨rfl, rfl⟩)
    | (go_at_call 54; refine Calls.mono (ownEditLists_nil none 0 _) ?_; rintro e w1 ⟨rfl, rfl⟩))
  refine bodyPost_ret (results_blk rfl _ _ (w.heap.size + 1) 40 [.int .i64 a, .int .i64 b, .slice none 0 0, .slice none 0 0] _ rfl (halloc_new _ _ _ (by simp)) Tryd.underlying40 rfl (by kernel_rfl)) rfl ?_
  exact ⟨rfl, ((Kept.refl _ _).alloc _).alloc _⟩

set_option maxRecDepth 100000 in
theorem ownInts {S : Nat → Prop} (v : Value) (l : List Int) (w : World) (h : Reads S w v 1 (irows l)) (hl : l.length ≤ 100000) : Calls Tryd.prog 43 #[v] w fun e w' => ∃ v', e = .returned v' ∧ Own w' w.heap.size 3 1 v' (irows l) ∧ Kept [] w w' := by
  have H := Lib.hid h
  obtain ⟨a1, c1, rfl, _, _, _⟩ := h.ints
  obtain ⟨i0, hi, hz0, hz1, hz2⟩ := info_parts info_int'
  clear h
  go_enter Tryd.func43, Tryd.ntmps43
  go_wp2_with (refine wpList_append_rows rfl (.const (.slice none 0 0)) (.tmp 3) 22 3 rfl i0 (.int .i64 0) 1 8 Tryd.underlying22 hi hz0 hz1 hz2 rfl (by decide) w.heap.size (.slice none 0 0) [] (irows l) rfl (Own.nil _ _ _ _) S (.slice a1 l.length c1) rfl H.out (by simp; omega) (by simp; omega) (Nat.le_refl _) ?_; intro v1 w1 ho1 hk1 _; have HO1 := Lib.hid ho1; have HK1 := Lib.hid hk1; clear ho1 hk1)
  go_ret
  exact ⟨_, rfl, by simpa using HO1.out, HK1.out [] (by intro x hx; simp [Value.ownBlock] at hx)⟩
end Go.Proofs.YtkldomkooleecaaDoor
