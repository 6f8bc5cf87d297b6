/- Walks: the first number that is not 0 (cmp.Or). -/
import Derived.Test.YtkldomkooleecaaGreatDoorCmp
namespace Go.Proofs.YtkldomkooleecaaGreatDoor
open Go.RowKit

theorem drop_cons {α : Type} {l : List α} {k : Nat} {x : α} (h : l[k]? = some x) : l.drop k = x :: l.drop (k + 1) := by
  obtain ⟨hk, rfl⟩ := List.getElem?_eq_some_iff.1 h
  rw [List.drop_eq_getElem_cons hk]

set_option maxRecDepth 100000 in
set_option maxHeartbeats 1600000 in
theorem cmpOr {S : Nat → Prop} (v : Value) (l : List Int) (w : World) (h : Reads S w v 1 (irows l)) :
    Calls Tryz.prog 63 #[v] w fun e w' => ∃ r : Int, e = .returned (.int .i64 r) ∧ IsOr r l ∧ w' = w := by
  obtain ⟨a1, c1, rfl, h1, h2, h3⟩ := h.ints
  have H3 := Lib.hid h3
  clear h h3
  go_enter Tryz.func63, Tryz.ntmps63
  go_wp2
  go_loop [8] (fun i => ∃ k : Nat, k ≤ l.length ∧ i = .int .i64 k ∧ Hid (l.foldr fst0 0 = (l.drop k).foldr fst0 0)) (fun i => l.length - (intOf i).toNat)
  case atStart => exact ⟨0, Nat.zero_le _, rfl, rfl⟩
  case round =>
    obtain ⟨k, hk, rfl, hz⟩ := hrel
    by_cases hlt : k < l.length
    · have hne : l ≠ [] := by rintro rfl; simp at hlt
      obtain ⟨b1, o1, rfl, hSb, hb1, hc1⟩ := H3.out.resolve_left hne
      obtain ⟨x, hx⟩ := getx l k hlt
      have cx := hc1 k x hx
      have HX := Lib.hid hx
      clear hc1 hx hne H3
      by_cases hx0 : x = 0
      · subst hx0
        go_wp2
        go_round
        case rel =>
          refine ⟨k + 1, by omega, by go_num, ?_⟩
          rw [Hid, hz.out, drop_cons HX.out]
          rfl
        case measure => simp [intOf]; omega
      · have hx0' : (x != 0) = true := by simpa using hx0
        have HN := Lib.hid hx0
        clear hx0
        go_wp2
        go_ret
        exact ⟨_, rfl, by unfold IsOr; rw [hz.out, drop_cons HX.out, List.foldr_cons, fst0_ne HN.out], rfl⟩
    · go_wp2
      go_ret
      have := hz.out
      rw [show k = l.length by omega, List.drop_length] at this
      exact ⟨0, rfl, this.symm, rfl⟩
end Go.Proofs.YtkldomkooleecaaGreatDoor
