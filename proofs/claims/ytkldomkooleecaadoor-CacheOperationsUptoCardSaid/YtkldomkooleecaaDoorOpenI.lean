/- What is handed to a law, opened: slices of integers. -/
import Derived.Test.YtkldomkooleecaaDoorBase
import Derived.Deep.Slices
namespace Go.Proofs.YtkldomkooleecaaDoor
open Go.RowKit

section
variable {H : Type} {enc : TypeId × Value → H} {w : World} {sp : Nat → Bool} {held : Bool}

theorem reads_open {P : Program} {α : Type} [Inhabited α] {t e : TypeId} {size fuel : Nat} {cs : List Value} {x : DataW H × List MemPlace} (ht : P.underlying t = some (.slice e)) (hc : P.cellsOf e = size) (hpos : 0 < size)
    (R : α → List Value) (Q : α → Prop) (hR : ∀ n cs x, DataW.trod enc P w 0 sp held n e cs = some x → ∃ a, cs = R a ∧ (R a).length = size ∧ (∀ u ∈ R a, u.oneCell' = true) ∧ Q a)
    (h : DataW.trod enc P w 0 sp held fuel t cs = some x) : ∃ (v : Value) (l : List α), cs = [v] ∧ v.oneCell' = true ∧ Reads (· < w.heap.size) w v size (l.map R) ∧ ∀ a ∈ l, Q a := by
  rcases Go.Deep.open_slice ht h with ⟨rfl, _⟩ | ⟨a, len, cap, m, n, D, Pl, rfl, _, hl, hm, hmm, _, hx⟩
  · exact ⟨_, [], rfl, rfl, Reads.nil _ _ _, by simp⟩
  · have hlm : len ≤ m := by rw [hmm]; split <;> omega
    obtain ⟨F, hF⟩ := Go.Deep.choose_lt (n := len) (p := fun i (y : α) => w.cells? 0 (a.add (i * size)) size = some (R y) ∧ (R y).length = size ∧ (∀ u ∈ R y, u.oneCell' = true) ∧ Q y) (fun i hi => by
      obtain ⟨cs', h1, h2⟩ := hx i (by omega)
      obtain ⟨y, rfl, h3, h4, h5⟩ := hR _ _ _ h2
      rw [hc] at h1
      exact ⟨y, h1, h3, h4, h5⟩)
    refine ⟨_, (List.range len).map F, rfl, rfl, ⟨?_, some a, cap, by simp, by simpa using hl, hm, ?_⟩, ?_⟩
    · intro r hr
      simp only [List.map_map, List.mem_map, List.mem_range, Function.comp] at hr
      obtain ⟨i, hi, rfl⟩ := hr
      exact ⟨(hF i hi).2.1, (hF i hi).2.2.1⟩
    · by_cases h0 : len = 0
      · left; simp [h0]
      · right
        obtain ⟨g1, g2, _, _⟩ := hF 0 (by omega)
        obtain ⟨_, _, g3⟩ := World.cells?_some g1
        have g4 := g3 0 hpos
        obtain ⟨u, hu⟩ : ∃ u, (R (F 0))[0]? = some u := ⟨(R (F 0))[0]'(by omega), by simp⟩
        rw [hu, Nat.zero_mul] at g4
        have hsp := World.cell?_spot g4
        have hlt := World.block_lt_of_cell? w _ g4
        obtain ⟨ab, ao, asp⟩ := a
        have hsp' : asp = none := by simpa [Addr.add] using hsp
        subst hsp'
        refine ⟨ab, ao, rfl, by simpa [Addr.add] using hlt, by simpa [Addr.add] using hlt, fun k r hk => ?_⟩
        rw [List.getElem?_map, List.getElem?_map] at hk
        rcases Nat.lt_or_ge k len with hkl | hkl
        · simp [hkl] at hk
          subst hk
          obtain ⟨f1, f2, _, _⟩ := hF k hkl
          obtain ⟨_, _, f3⟩ := World.cells?_some f1
          intro j v hj
          have := f3 j (by have := (List.getElem?_eq_some_iff.1 hj).1; omega)
          rw [hj] at this
          simp only [Addr.add_lit] at this
          exact this
        · simp [List.getElem?_eq_none (show (List.range len).length ≤ k by simpa using hkl)] at hk
    · intro y hy
      obtain ⟨i, hi, rfl⟩ := List.mem_map.1 hy
      exact (hF i (by simpa using hi)).2.2.2

variable {fuel : Nat} {cs : List Value} {x : DataW H × List MemPlace}

theorem cells_int : Tryd.prog.cellsOf 3 = 1 := by kernel_rfl
theorem open_irows (h : DataW.trod enc Tryd.prog w 0 sp held fuel 22 cs = some x) : ∃ v l, cs = [v] ∧ v.oneCell' = true ∧ Reads (· < w.heap.size) w v 1 (irows l) := by
  obtain ⟨v, l, h1, h2, h3, _⟩ := reads_open Tryd.underlying22 cells_int (by decide) (fun n : Int => [Value.int .i64 n]) (fun _ => True) (fun n cs x h => by
    obtain ⟨z, rfl, _, _⟩ := DataW.trod_int Tryd.underlying3 h
    exact ⟨z, rfl, rfl, by simp [Value.oneCell'], trivial⟩) h
  exact ⟨v, l, h1, h2, h3⟩

end
end Go.Proofs.YtkldomkooleecaaDoor
