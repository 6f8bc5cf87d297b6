/- Walks: the first number that is not 0 (cmp.Or). -/
import Derived.Test.YtkldomkooleecaaDoorCmp
namespace Go.Proofs.YtkldomkooleecaaDoor
open Go.RowKit

set_option maxRecDepth 100000 in
set_option maxHeartbeats 1600000 in
theorem cmpOr {S : Nat → Prop} (v : Value) (l : List Int) (w : World) (h : Reads S w v 1 (irows l)) :
    Calls Tryd.prog 57 #[v] w fun e w' => ∃ r : Int, e = .returned (.int .i64 r) ∧ (r = 0 ↔ ∀ x ∈ l, x = 0) ∧ w' = w := by
  obtain ⟨a1, c1, rfl, h1, h2, h3⟩ := h.ints
  have H3 := Lib.hid h3
  clear h h3
  go_enter Tryd.func57, Tryd.ntmps57
  go_wp2
  go_loop [8] (fun i => ∃ k : Nat, k ≤ l.length ∧ i = .int .i64 k ∧ Hid (∀ x ∈ l.take k, x = 0)) (fun i => l.length - (intOf i).toNat)
  case atStart => exact ⟨0, Nat.zero_le _, rfl, fun x hx => by simp at hx⟩
  case round =>
    obtain ⟨k, hk, rfl, hz⟩ := hrel
    by_cases hlt : k < l.length
    · have hne : l ≠ [] := by rintro rfl; simp at hlt
      obtain ⟨b1, o1, rfl, hSb, hb1, hc1⟩ := H3.out.resolve_left hne
      obtain ⟨x, hx⟩ := getx l k hlt
      have cx := hc1 k x hx
      have HX := Lib.hid hx
      clear hc1 hx hne H3
      by_cases hx0 : x = 0
      · subst hx0
        go_wp2
        go_round
        case rel =>
          refine ⟨k + 1, by omega, by go_num, ?_⟩
          rw [Hid, List.take_add_one, HX.out]
          intro y hy
          rcases List.mem_append.1 hy with hy | hy
          · exact hz.out y hy
          · simpa using hy
        case measure => simp [intOf]; omega
      · have hx0' : (x != 0) = true := by simpa using hx0
        have HN := Lib.hid hx0
        clear hx0
        go_wp2
        go_ret
        exact ⟨_, rfl, ⟨fun h => absurd h HN.out, fun h => absurd (h x (List.mem_of_getElem? HX.out)) HN.out⟩, rfl⟩
    · go_wp2
      go_ret
      have := hz.out
      rw [show k = l.length by omega, List.take_length] at this
      exact ⟨0, rfl, ⟨fun _ => this, fun _ => rfl⟩, rfl⟩
end Go.Proofs.YtkldomkooleecaaDoor
