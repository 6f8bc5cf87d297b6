/- Walks: comparisons of numbers and strings; comparison of type terms that are equal and without arguments. -/
import Derived.Test.YtkldomkooleecaaGreatDoorTyOrd
import Derived.WalkLawsBesides

namespace Go.Proofs.YtkldomkooleecaaGreatDoor
open Go.RowKit

set_option maxRecDepth 100000 in
theorem isNaNInt (x : Int) (w : World) : Calls Tryz.prog 84 #[.int .i64 x] w fun e w' => e = .returned (.bool false) ∧ w' = w := by
  go_enter Tryz.func84, Tryz.ntmps84
  go_wp2
  go_ret
  simp
set_option maxRecDepth 100000 in
theorem cmpInt (x y : Int) (w : World) : Calls Tryz.prog 64 #[.int .i64 x, .int .i64 y] w fun e w' => e = .returned (.int .i64 (if x < y then -1 else if y < x then 1 else 0)) ∧ w' = w := by
  have hcase : x < y ∨ y < x ∨ x = y := by omega
  rcases hcase with h | h | rfl
  · go_enter Tryz.func64, Tryz.ntmps64
    go_wp2_with (first | (go_at_call 84; refine (isNaNInt _ _).mono ?_; rintro e w' ⟨rfl, rfl⟩))
    go_ret
    exact ⟨by simp, rfl⟩
  · have h2 : ¬ x < y := by omega
    go_enter Tryz.func64, Tryz.ntmps64
    go_wp2_with (first | (go_at_call 84; refine (isNaNInt _ _).mono ?_; rintro e w' ⟨rfl, rfl⟩))
    go_ret
    exact ⟨by simp, rfl⟩
  · go_enter Tryz.func64, Tryz.ntmps64
    go_wp2_with (first | (go_at_call 84; refine (isNaNInt _ _).mono ?_; rintro e w' ⟨rfl, rfl⟩))
    go_ret
    exact ⟨by simp, rfl⟩
set_option maxRecDepth 100000 in
theorem isNaNStr (x : ByteArray) (w : World) : Calls Tryz.prog 85 #[.string x] w fun e w' => e = .returned (.bool false) ∧ w' = w := by
  go_enter Tryz.func85, Tryz.ntmps85
  go_wp2
  go_ret
  simp
theorem bytesLess_irrefl : ∀ l : List UInt8, Op.bytesLess l l = false
  | [] => rfl
  | a :: l => by
    unfold Op.bytesLess
    rw [bytesLess_irrefl l]
    simp
theorem str_inj {x y : ByteArray} (h : x.toList = y.toList) : x = y := by
  rw [ByteArray.toList_eq, ByteArray.toList_eq] at h
  exact Go.WideShapes.bytes_inj h
/-- Answers of comparisons. -/
def IsI (r x y : Int) : Prop := r = cmpI x y
def IsS (r : Int) (x y : ByteArray) : Prop := r = cmpS x y
def IsOr (r : Int) (l : List Int) : Prop := r = l.foldr fst0 0
def IsCmp (r : Int) (x y : Ty) : Prop := r = tyCmp x y

set_option maxRecDepth 100000 in
theorem cmpStr (x y : ByteArray) (w : World) : Calls Tryz.prog 65 #[.string x, .string y] w fun e w' => ∃ r : Int, e = .returned (.int .i64 r) ∧ IsS r x y ∧ w' = w := by
  go_enter Tryz.func65, Tryz.ntmps65
  go_wp2_with (first | (go_at_call 85; refine (isNaNStr _ _).mono ?_; rintro e w' ⟨rfl, rfl⟩))
  · go_ret
    have hlt : Op.bytesLess x.toList y.toList = true := by assumption
    exact ⟨_, rfl, by unfold IsS cmpS cmpB; rw [hlt]; simp, rfl⟩
  · go_ret
    have hlt : Op.bytesLess x.toList y.toList = false := by assumption
    have hne : (!x.toList == y.toList) = true := by assumption
    have hgt : Op.bytesLess y.toList x.toList = true := by
      cases h : Op.bytesLess y.toList x.toList
      · have := less_total _ _ hlt h
        simp [this] at hne
      · rfl
    exact ⟨_, rfl, by unfold IsS cmpS cmpB; rw [hlt, hgt]; simp, rfl⟩
  · go_ret
    have hlt : (!x.toList == y.toList) = false := by assumption
    have he : x.toList = y.toList := by simpa using hlt
    exact ⟨_, rfl, by unfold IsS cmpS cmpB; rw [he, less_irrefl]; simp, rfl⟩
end Go.Proofs.YtkldomkooleecaaGreatDoor

/- Walks: the first number that is not 0 (cmp.Or). -/
namespace Go.Proofs.YtkldomkooleecaaGreatDoor
open Go.RowKit

theorem drop_cons {α : Type} {l : List α} {k : Nat} {x : α} (h : l[k]? = some x) : l.drop k = x :: l.drop (k + 1) := by
  obtain ⟨hk, rfl⟩ := List.getElem?_eq_some_iff.1 h
  rw [List.drop_eq_getElem_cons hk]

set_option maxRecDepth 100000 in
set_option maxHeartbeats 1600000 in
theorem cmpOr {S : Nat → Prop} (v : Value) (l : List Int) (w : World) (h : Reads S w v 1 (irows l)) :
    Calls Tryz.prog 63 #[v] w fun e w' => ∃ r : Int, e = .returned (.int .i64 r) ∧ IsOr r l ∧ w' = w := by
  obtain ⟨a1, c1, rfl, h1, h2, h3⟩ := h.ints
  have H3 := Lib.hid h3
  clear h h3
  go_enter Tryz.func63, Tryz.ntmps63
  go_wp2
  go_loop [8] (fun i => ∃ k : Nat, k ≤ l.length ∧ i = .int .i64 k ∧ Hid (l.foldr fst0 0 = (l.drop k).foldr fst0 0)) (fun i => l.length - (intOf i).toNat)
  case atStart => exact ⟨0, Nat.zero_le _, rfl, rfl⟩
  case round =>
    obtain ⟨k, hk, rfl, hz⟩ := hrel
    by_cases hlt : k < l.length
    · have hne : l ≠ [] := by rintro rfl; simp at hlt
      obtain ⟨b1, o1, rfl, hSb, hb1, hc1⟩ := H3.out.resolve_left hne
      obtain ⟨x, hx⟩ := getx l k hlt
      have cx := hc1 k x hx
      have HX := Lib.hid hx
      clear hc1 hx hne H3
      by_cases hx0 : x = 0
      · subst hx0
        go_wp2
        go_round
        case rel =>
          refine ⟨k + 1, by omega, by go_num, ?_⟩
          rw [Hid, hz.out, drop_cons HX.out]
          rfl
        case measure => simp [intOf]; omega
      · have hx0' : (x != 0) = true := by simpa using hx0
        have HN := Lib.hid hx0
        clear hx0
        go_wp2
        go_ret
        exact ⟨_, rfl, by unfold IsOr; rw [hz.out, drop_cons HX.out, List.foldr_cons, fst0_ne HN.out], rfl⟩
    · go_wp2
      go_ret
      have := hz.out
      rw [show k = l.length by omega, List.drop_length] at this
      exact ⟨0, rfl, this.symm, rfl⟩
end Go.Proofs.YtkldomkooleecaaGreatDoor
