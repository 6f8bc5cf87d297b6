/- Walks: comparisons of numbers and strings; comparison of type terms that are equal and without arguments. -/
import Derived.Test.YtkldomkooleecaaDoorOwnK
import Derived.WalkLawsBesides
namespace Go.Proofs.YtkldomkooleecaaDoor
open Go.RowKit

set_option maxRecDepth 100000 in
theorem isNaNInt (x : Int) (w : World) : Calls Tryd.prog 66 #[.int .i64 x] w fun e w' => e = .returned (.bool false) ∧ w' = w := by
  go_enter Tryd.func66, Tryd.ntmps66
  go_wp2
  go_ret
  simp
set_option maxRecDepth 100000 in
theorem cmpInt (x y : Int) (w : World) : Calls Tryd.prog 58 #[.int .i64 x, .int .i64 y] w fun e w' => e = .returned (.int .i64 (if x < y then -1 else if y < x then 1 else 0)) ∧ w' = w := by
  have hcase : x < y ∨ y < x ∨ x = y := by omega
  rcases hcase with h | h | rfl
  · go_enter Tryd.func58, Tryd.ntmps58
    go_wp2_with (first | (go_at_call 66; refine (isNaNInt _ _).mono ?_; rintro e w' ⟨rfl, rfl⟩))
    go_ret
    exact ⟨by simp, rfl⟩
  · have h2 : ¬ x < y := by omega
    go_enter Tryd.func58, Tryd.ntmps58
    go_wp2_with (first | (go_at_call 66; refine (isNaNInt _ _).mono ?_; rintro e w' ⟨rfl, rfl⟩))
    go_ret
    exact ⟨by simp, rfl⟩
  · go_enter Tryd.func58, Tryd.ntmps58
    go_wp2_with (first | (go_at_call 66; refine (isNaNInt _ _).mono ?_; rintro e w' ⟨rfl, rfl⟩))
    go_ret
    exact ⟨by simp, rfl⟩
set_option maxRecDepth 100000 in
theorem isNaNStr (x : ByteArray) (w : World) : Calls Tryd.prog 67 #[.string x] w fun e w' => e = .returned (.bool false) ∧ w' = w := by
  go_enter Tryd.func67, Tryd.ntmps67
  go_wp2
  go_ret
  simp
theorem bytesLess_irrefl : ∀ l : List UInt8, Op.bytesLess l l = false
  | [] => rfl
  | a :: l => by
    unfold Op.bytesLess
    rw [bytesLess_irrefl l]
    simp
theorem str_inj {x y : ByteArray} (h : x.toList = y.toList) : x = y := by
  rw [ByteArray.toList_eq, ByteArray.toList_eq] at h
  exact Go.WideShapes.bytes_inj h
set_option maxRecDepth 100000 in
theorem cmpStr (x y : ByteArray) (w : World) : Calls Tryd.prog 59 #[.string x, .string y] w fun e w' => ∃ r : Int, e = .returned (.int .i64 r) ∧ (r = 0 ↔ x = y) ∧ w' = w := by
  go_enter Tryd.func59, Tryd.ntmps59
  go_wp2_with (first | (go_at_call 67; refine (isNaNStr _ _).mono ?_; rintro e w' ⟨rfl, rfl⟩))
  · go_ret
    refine ⟨_, rfl, ⟨fun h => by omega, fun h => ?_⟩, rfl⟩
    subst h
    rename_i hlt
    rw [bytesLess_irrefl] at hlt
    cases hlt
  · go_ret
    refine ⟨_, rfl, ⟨fun h => by omega, fun h => ?_⟩, rfl⟩
    subst h
    rename_i hlt
    simp at hlt
  · go_ret
    refine ⟨_, rfl, ⟨fun _ => ?_, fun _ => rfl⟩, rfl⟩
    have hlt : (!x.toList == y.toList) = false := by assumption
    simp at hlt
    exact str_inj hlt
end Go.Proofs.YtkldomkooleecaaDoor
