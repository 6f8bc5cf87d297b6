/- Walks over functions on slices of integers: EqualInts, contains, Inserted. -/
import Derived.Test.YtkldomkooleecaaRows
import Derived.Test.YtkldomkooleecaaSet
import Derived.Deep.RegionLaw
import Derived.Deep.DeepMust
namespace Go.Proofs.Ytkldomkooleecaa
open Go.RowKit

/-- A list of integers, as rows of one cell. -/
def irows (l : List Int) : List (List Value) := l.map fun x => [Value.int .i64 x]
theorem irows_get {l : List Int} {k : Nat} {x : Int} (h : l[k]? = some x) : (irows l)[k]? = some [Value.int .i64 x] := by simp [irows, h]
@[simp] theorem irows_length (l : List Int) : (irows l).length = l.length := by simp [irows]
theorem irows_append (l m : List Int) : irows (l ++ m) = irows l ++ irows m := by simp [irows]

theorem irows_flatten (l : List Int) : (irows l).flatten = l.map (Value.int .i64) := by
  induction l with
  | nil => rfl
  | cons x l ih => rw [show irows (x :: l) = [Value.int .i64 x] :: irows l from rfl, List.flatten_cons, ih]; rfl
theorem irows_cell (l : List Int) : ∀ r ∈ irows l, r.length = 1 ∧ ∀ u ∈ r, u.oneCell' = true := by
  intro r hr
  unfold irows at hr
  obtain ⟨x, _, rfl⟩ := List.mem_map.1 hr
  simp [Value.oneCell']

/-- What reads as a list of integers: nothing of it, or its cells. -/
theorem Reads.ints {S : Nat → Prop} {w : World} {v : Value} {l : List Int} (h : Reads S w v 1 (irows l)) : ∃ a cap, v = .slice a l.length cap ∧ l.length ≤ cap ∧ cap ≤ 9223372036854775807 ∧
    (l = [] ∨ ∃ b off, a = some ⟨b, off, none⟩ ∧ S b ∧ b < w.heap.size ∧ ∀ k x, l[k]? = some x → w.cell? ⟨b, off + k, none⟩ = some (.int .i64 x)) := by
  obtain ⟨_, a, cap, rfl, h2, h3, h4⟩ := h
  rw [irows_length] at h2 ⊢
  refine ⟨a, cap, rfl, h2, by simpa [maxLen] using h3, ?_⟩
  rcases h4 with h4 | ⟨b, off, rfl, hs, hb, hr⟩
  · left; simpa [irows] using h4
  · refine .inr ⟨b, off, rfl, hs, hb, fun k x hx => ?_⟩
    have := hr k _ (irows_get hx) 0 (.int .i64 x) rfl
    simpa using this

theorem getx (l : List Int) (k : Nat) (h : k < l.length) : ∃ x, l[k]? = some x := ⟨l[k], by simp⟩

/-- EqualInts of two slices that read alike: true. -/
theorem eqInts {S S' : Nat → Prop} (v v' : Value) (l : List Int) (w : World) (h : Reads S w v 1 (irows l)) (h' : Reads S' w v' 1 (irows l)) :
    Calls Try.prog 13 #[v, v'] w fun e w' => e = .returned (.bool true) ∧ Kept [] w w' := by
  obtain ⟨a1, c1, rfl, h1, h2, h3⟩ := h.ints
  obtain ⟨a2, c2, rfl, g1, g2, g3⟩ := h'.ints
  have hn : ((l.length : Int) != (l.length : Int)) = false := by simp
  have H3 := Lib.hid h3
  have G3 := Lib.hid g3
  clear h3 g3 h h'
  go_enter Try.func13, Try.ntmps13
  go_wp2
  go_loopw [5] (fun i wr => ∃ k : Nat, k ≤ l.length ∧ i = .int .i64 k ∧ Kept [] w wr) (fun i _ => l.length - (intOf i).toNat)
  case atStart => exact ⟨0, Nat.zero_le _, rfl, Kept.refl _ _⟩
  case round =>
    obtain ⟨k, hk, rfl, hb⟩ := hrel
    by_cases hlt : k < l.length
    · have hne : l ≠ [] := by rintro rfl; simp at hlt
      obtain ⟨b1, o1, rfl, _, hb1, hc1⟩ := H3.out.resolve_left hne
      obtain ⟨b2, o2, rfl, _, hb2, hc2⟩ := G3.out.resolve_left hne
      obtain ⟨x, hx⟩ := getx l k hlt
      have c1 := hb.cell' (hc1 k x hx) (by simp)
      have c2 := hb.cell' (hc2 k x hx) (by simp)
      have hxx : (x != x) = false := by simp
      clear hc1 hc2 hx H3 G3 hne
      go_wp2
      go_quiet (fail)
      go_wp2
      go_roundw
      case rel => exact ⟨k + 1, by omega, by go_num, hb.drewN _⟩
      case measure => simp [intOf]; omega
    · go_wp2
      go_ret
      exact ⟨rfl, hb⟩

/-- contains: is it one of them? -/
theorem contains_any {S : Nat → Prop} (v : Value) (l : List Int) (n : Int) (w : World) (h : Reads S w v 1 (irows l)) :
    Calls Try.prog 42 #[v, .int .i64 n] w fun e w' => e = .returned (.bool (decide (n ∈ l))) ∧ w = w' := by
  obtain ⟨a1, c1, rfl, h1, h2, h3⟩ := h.ints
  have H3 := Lib.hid h3
  clear h3 h
  go_enter Try.func42, Try.ntmps42
  go_wp2
  go_loop [5] (fun i => ∃ k : Nat, k ≤ l.length ∧ i = .int .i64 k ∧ Hid (n ∉ l.take k)) (fun i => l.length - (intOf i).toNat)
  case atStart => exact ⟨0, Nat.zero_le _, rfl, by simp [Hid]⟩
  case round =>
    obtain ⟨k, hk, rfl, hm⟩ := hrel
    by_cases hlt : k < l.length
    · have hne : l ≠ [] := by rintro rfl; simp at hlt
      obtain ⟨b1, o1, rfl, _, hb1, hc1⟩ := H3.out.resolve_left hne
      obtain ⟨x, hx⟩ := getx l k hlt
      have c1 := hc1 k x hx
      have HX := Lib.hid hx
      clear hc1 hx H3 hne
      go_wp2
      · go_ret
        have hxn : x = n := by have : (x == n) = true := by assumption
                               simpa using this
        refine ⟨congrArg (fun b => Ending.returned (Value.bool b)) ?_, rfl⟩
        subst hxn
        simp [List.mem_of_getElem? HX.out]
      · go_round
        case rel =>
          have hxn : x ≠ n := by have : (x == n) = false := by assumption
                                 simpa using this
          refine ⟨k + 1, by omega, by go_num, ?_⟩
          have := hm.out
          rw [Hid, List.take_add_one, HX.out]
          simp
          exact ⟨this, fun e => hxn e.symm⟩
        case measure => simp [intOf]; omega
    · go_wp2
      go_ret
      refine ⟨congrArg (fun b => Ending.returned (Value.bool b)) ?_, rfl⟩
      have := hm.out
      rw [show k = l.length by omega, List.take_length] at this
      simp [this]
end Go.Proofs.Ytkldomkooleecaa
