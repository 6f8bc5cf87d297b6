/- Walks: equality of values without elements. -/
import Derived.Test.YtkldomkooleecaaRoots
namespace Go.Proofs.Ytkldomkooleecaa
open Go.RowKit

set_option maxRecDepth 100000 in
set_option maxHeartbeats 1600000 in
theorem valueEqual (n : Int) (a a' : Option Addr) (c c' : Nat) (w : World) :
    Calls Try.prog 24 #[.agg #[.int .i64 5, .int .i64 n, .string ⟨#[]⟩, .slice a 0 c], .agg #[.int .i64 5, .int .i64 n, .string ⟨#[]⟩, .slice a' 0 c']] w fun e w' => e = .returned (.bool true) ∧ Kept [] w w' := by
  go_enter Try.func24, Try.ntmps24
  go_wp2
  go_loop [5] (fun i => i = .int .i64 0) (fun _ => 0)
  case atStart => exact rfl
  case round =>
    obtain rfl := hrel
    go_wp2
    go_ret
    exact ⟨rfl, ((Kept.refl _ _).alloc _).alloc _⟩

set_option maxRecDepth 100000 in
set_option maxHeartbeats 1600000 in
theorem eqRoots {S S' : Nat → Prop} (v v' : Value) (l : List Int) (w : World) (h : Reads S w v 4 (rroots l)) (h' : Reads S' w v' 4 (rroots l)) (hl : l.length ≤ 1000000) :
    Calls Try.prog 50 #[v, v'] w fun e w' => e = .returned (.bool true) ∧ Kept [] w w' := by
  obtain ⟨_, a1, c1, rfl, h1, h2, h3⟩ := h
  obtain ⟨_, a2, c2, rfl, g1, g2, g3⟩ := h'
  rw [rroots_length] at h1 g1 ⊢
  have H3 := Lib.hid h3
  have G3 := Lib.hid g3
  clear h3 g3
  unfold maxLen at h2 g2
  go_enter Try.func50, Try.ntmps50
  go_wp2
  go_loopw [5] (fun i wr => ∃ k : Nat, k ≤ l.length ∧ i = .int .i64 k ∧ Kept [] w wr) (fun i _ => l.length - (intOf i).toNat)
  case atStart => exact ⟨0, Nat.zero_le _, rfl, Kept.refl _ _⟩
  case round =>
    obtain ⟨k, hk, rfl, hkr⟩ := hrel
    by_cases hlt : k < l.length
    · have hne : rroots l ≠ [] := by intro e; have := congrArg List.length e; simp at this; subst this; simp at hlt
      obtain ⟨b1, o1, rfl, _, hb1, hr1⟩ := H3.out.resolve_left hne
      obtain ⟨b2, o2, rfl, _, hb2, hr2⟩ := G3.out.resolve_left hne
      obtain ⟨x, hx⟩ := getx l k hlt
      have q1 := hkr.range (hr1 k (rroot x) (by simp [rroots, hx])) (by simp)
      have q2 := hkr.range (hr2 k (rroot x) (by simp [rroots, hx])) (by simp)
      have e0 : wr.cell? ⟨b1, o1 + k * 4, none⟩ = some (.int .i64 5) := q1 0 _ rfl
      have e1 : wr.cell? ⟨b1, o1 + k * 4 + 1, none⟩ = some (.int .i64 x) := q1 1 _ rfl
      have e2 : wr.cell? ⟨b1, o1 + k * 4 + 2, none⟩ = some (.string ⟨#[]⟩) := q1 2 _ rfl
      have e3 : wr.cell? ⟨b1, o1 + k * 4 + 3, none⟩ = some (.slice none 0 0) := q1 3 _ rfl
      have f0 : wr.cell? ⟨b2, o2 + k * 4, none⟩ = some (.int .i64 5) := q2 0 _ rfl
      have f1 : wr.cell? ⟨b2, o2 + k * 4 + 1, none⟩ = some (.int .i64 x) := q2 1 _ rfl
      have f2 : wr.cell? ⟨b2, o2 + k * 4 + 2, none⟩ = some (.string ⟨#[]⟩) := q2 2 _ rfl
      have f3 : wr.cell? ⟨b2, o2 + k * 4 + 3, none⟩ = some (.slice none 0 0) := q2 3 _ rfl
      clear q1 q2 hr1 hr2 hx hne H3 G3
      obtain ⟨wo, hwo⟩ : ∃ wo : World, wo = wr := ⟨_, rfl⟩
      subst hwo
      have hlt' : (k : Int) < l.length := by omega
      go_wp2
      go_region_law ((first
        | (refine step_call rfl 24 Try.f24 Try.func24 (by kernel_rfl) (by kernel_rfl) _ _ rfl [.agg #[.int .i64 5, .int .i64 x, .string ⟨#[]⟩, .slice none 0 0], .agg #[.int .i64 5, .int .i64 x, .string ⟨#[]⟩, .slice none 0 0]] rfl (valueEqual x none none 0 0 _) (by rintro e w' ⟨rfl, _⟩; exact ⟨_, rfl⟩) ?_; rintro v2 w2 ⟨hve, hk2⟩; cases hve)))
      all_goals go_wp2
      all_goals
        go_roundw
        case rel => exact ⟨k + 1, by omega, by go_num, (hkr.drew).trans hk2⟩
        case measure => simp [intOf]; omega
    · go_wp2
      go_ret
      exact ⟨rfl, hkr⟩
end Go.Proofs.Ytkldomkooleecaa
