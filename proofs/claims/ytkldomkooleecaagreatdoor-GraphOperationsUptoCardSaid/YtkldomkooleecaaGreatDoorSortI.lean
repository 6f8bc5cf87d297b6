/- Walks: integers sorted in place. -/
import Derived.Test.YtkldomkooleecaaGreatDoorGraph
import Derived.Test.YtkldomkooleecaaGreatDoorShelf
import Derived.Sort.OwnSortedInts
import Derived.Shelf.Slices.In.SortNone
namespace Go.Proofs.YtkldomkooleecaaGreatDoor
open Go.RowKit

/-- slices.Sort of a slice of the call's own. -/
theorem sort_own {base e : Nat} (v : Value) (l : List Int) (w : World) (h : Own w base e 1 v (irows l)) (hl : l.length < 4611686018427387904) :
    Calls Tryz.prog 66 #[v] w fun e' w' => e' = .returned (.tuple #[]) ∧ Own w' base e 1 v (irows (l.mergeSort fun x y => decide (x ≤ y))) ∧ Kept v.ownBlock.toList w w' := by
  rcases h.row.2 with ⟨rfl, h2⟩ | ⟨g, cap, cur, rfl, hb, hg, h3, h4, h5, h6⟩
  · have hl0 : l = [] := by simpa using h2
    subst hl0
    refine (Any.slices_Sort_int_none Tryz.lays189 none 0 w).mono ?_
    rintro e' w' ⟨rfl, rfl⟩
    refine ⟨rfl, ?_, Kept.refl _ _⟩
    rw [show ([] : List Int).mergeSort (fun x y => decide (x ≤ y)) = [] by simp]
    exact h
  · have hcur : cur.toList.take l.length = l.map (Value.int .i64) := by
      rw [irows_flatten] at h6
      simpa using h6
    have hH := holds_of_blockI hg hcur
    have hln : (irows l).length = l.length := irows_length l
    rw [hln]
    refine (Tryz.slices_Sort_int g 0 cap l w hH (Array.getElem?_eq_some_iff.1 hg).1 hl).mono ?_
    rintro e' w' ⟨rfl, n, os, rfl⟩
    have hml : (l.mergeSort fun x y => decide (x ≤ y)).length = l.length := by simp
    refine ⟨rfl, ⟨?_, ?_⟩, Kept.ofGrown (grownBy_sortedI _) (by simp [Value.ownBlock])⟩
    · have := ownsRow_sortedI (w := w) (base := base) (g := g) (cap := cap) (n := n) (e := e) (os := os) (cur := cur) (ss := l) (ts := l.mergeSort fun x y => decide (x ≤ y)) hml hb hg (by rw [← hln]; exact h3) h4 h5
      rw [irows_length, hml, irows_flatten]
      exact this
    · exact irows_cell _

theorem sort_perm {l m : List Int} (h : l.Perm m) : (l.mergeSort fun x y => decide (x ≤ y)) = m.mergeSort fun x y => decide (x ≤ y) := by
  apply List.Perm.eq_of_pairwise (le := fun x y => decide (x ≤ y) = true)
  · intro a b _ _ h1 h2; simp at h1 h2; omega
  · exact List.pairwise_mergeSort (fun a b c => by simp; omega) (fun a b => by simp; omega) l
  · exact List.pairwise_mergeSort (fun a b c => by simp; omega) (fun a b => by simp; omega) m
  · exact ((List.mergeSort_perm l _).trans h).trans (List.mergeSort_perm m _).symm

set_option maxRecDepth 100000 in
theorem sortInts {base e : Nat} (v : Value) (l : List Int) (w : World) (h : Own w base e 1 v (irows l)) (hl : l.length < 4611686018427387904) :
    Calls Tryz.prog 47 #[v] w fun e' w' => e' = .returned (.tuple #[]) ∧ Own w' base e 1 v (irows (l.mergeSort fun x y => decide (x ≤ y))) ∧ Kept v.ownBlock.toList w w' := by
  have H := Lib.hid h
  clear h
  go_enter Tryz.func47, Tryz.ntmps47
  go_wp2_with (go_at_call 66; refine (sort_own v l _ H.out hl).mono ?_; rintro e' w1 ⟨rfl, ho, hk⟩; have HO := Lib.hid ho; clear ho)
  go_end0
  exact ⟨rfl, HO.out, hk⟩
end Go.Proofs.YtkldomkooleecaaGreatDoor
