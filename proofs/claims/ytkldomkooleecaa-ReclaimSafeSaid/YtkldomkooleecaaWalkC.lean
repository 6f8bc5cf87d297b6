/- Walks: a set's elements in ascending order (Sorted). -/
import Derived.Test.YtkldomkooleecaaWalkA
import Derived.Test.YtkldomkooleecaaShelf
import Derived.Deep.LoopGhost
import Derived.Sort.OwnSortedInts
import Derived.Shelf.Slices.In.SortNone
namespace Go.Proofs.Ytkldomkooleecaa
open Go.RowKit

theorem info_int' : (Try.prog.info? 3).map (fun i => (i.zero, i.size, i.bytes)) = some (some (.int .i64 0), 1, 8) := by kernel_rfl

/-- slices.Sort of a slice of the call's own. -/
theorem sort_own {base e : Nat} (v : Value) (l : List Int) (w : World) (h : Own w base e 1 v (irows l)) (hl : l.length < 4611686018427387904) :
    Calls Try.prog 54 #[v] w fun e' w' => e' = .returned (.tuple #[]) ∧ Own w' base e 1 v (irows (l.mergeSort fun x y => decide (x ≤ y))) ∧ Kept v.ownBlock.toList w w' := by
  rcases h.row.2 with ⟨rfl, h2⟩ | ⟨g, cap, cur, rfl, hb, hg, h3, h4, h5, h6⟩
  · have hl0 : l = [] := by simpa using h2
    subst hl0
    refine (Any.slices_Sort_int_none Try.lays189 none 0 w).mono ?_
    rintro e' w' ⟨rfl, rfl⟩
    refine ⟨rfl, ?_, Kept.refl _ _⟩
    rw [show ([] : List Int).mergeSort (fun x y => decide (x ≤ y)) = [] by simp]
    exact h
  · have hcur : cur.toList.take l.length = l.map (Value.int .i64) := by
      rw [irows_flatten] at h6
      simpa using h6
    have hH := holds_of_blockI hg hcur
    have hln : (irows l).length = l.length := irows_length l
    rw [hln]
    refine (Try.slices_Sort_int g 0 cap l w hH (Array.getElem?_eq_some_iff.1 hg).1 hl).mono ?_
    rintro e' w' ⟨rfl, n, os, rfl⟩
    have hml : (l.mergeSort fun x y => decide (x ≤ y)).length = l.length := by simp
    refine ⟨rfl, ⟨?_, ?_⟩, Kept.ofGrown (grownBy_sortedI _) (by simp [Value.ownBlock])⟩
    · have := ownsRow_sortedI (w := w) (base := base) (g := g) (cap := cap) (n := n) (e := e) (os := os) (cur := cur) (ss := l) (ts := l.mergeSort fun x y => decide (x ≤ y)) hml hb hg (by rw [← hln]; exact h3) h4 h5
      rw [irows_length, hml, irows_flatten]
      exact this
    · exact irows_cell _

theorem sort_perm {l m : List Int} (h : l.Perm m) : (l.mergeSort fun x y => decide (x ≤ y)) = m.mergeSort fun x y => decide (x ≤ y) := by
  apply List.Perm.eq_of_pairwise (le := fun x y => decide (x ≤ y) = true)
  · intro a b _ _ h1 h2; simp at h1 h2; omega
  · exact List.pairwise_mergeSort (fun a b c => by simp; omega) (fun a b => by simp; omega) l
  · exact List.pairwise_mergeSort (fun a b c => by simp; omega) (fun a b => by simp; omega) m
  · exact ((List.mergeSort_perm l _).trans h).trans (List.mergeSort_perm m _).symm
theorem nodup_le : ∀ (n : Nat) (l : List Nat), l.Nodup → (∀ i ∈ l, i < n) → l.length ≤ n
  | 0, l, _, hl => by
    cases l with
    | nil => simp
    | cons x l => exact absurd (hl x (by simp)) (by omega)
  | n + 1, l, h, hl => by
    have h1 := nodup_le n (l.erase n) (h.erase n) (fun i hi => by
      have h2 := (h.mem_erase_iff).1 hi
      have := hl i h2.2
      have := h2.1
      omega)
    rw [List.length_erase] at h1
    split at h1 <;> omega

set_option maxRecDepth 100000 in
set_option maxHeartbeats 1600000 in
theorem sorted_any (b : Nat) (s : List Int) (w : World) (h : IsSet w b s) (hl : s.length ≤ 1000000) :
    Calls Try.prog 41 #[.map (some b)] w fun e w' => ∃ v, e = .returned v ∧ Own w' w.heap.size 3 1 v (irows (s.mergeSort fun x y => decide (x ≤ y))) ∧ Kept [] w w' := by
  obtain ⟨i0, hi, hz0, hz1, hz2⟩ := info_parts info_int'
  have hlt := h.lt
  have HS := Lib.hid h
  clear h
  go_enter Try.func41, Try.ntmps41
  go_wp2_with (refine wpList_set_range rfl (.tmp 5) 85 rfl 3 4 Try.underlying85 b s rfl HS.out ?_; intro w0 hs0 hi0 hk0 hz0)
  go_frame
  go_loopg [3] s.length (fun k v wr => ∃ done : List Nat, k = s.length - done.length ∧ done.length ≤ s.length ∧ IsSet wr b s ∧ IsIter wr w.heap.size b s done ∧ Own wr (w.heap.size + 1) 3 1 v (irows (done.map fun i => s.getD i 0)) ∧ Kept [] w wr ∧ w.heap.size + 1 ≤ wr.heap.size)
  case atStart => exact ⟨[], by simp, by simp, hs0, hi0, Own.nil _ _ _ _, hk0, by omega⟩
  case round =>
    obtain ⟨done, rfl, hdl, hsr, hir, hown, hkr, hsz⟩ := hrel
    have HR := Lib.hid hsr
    have HI := Lib.hid hir
    have HO := Lib.hid hown
    have HN := Lib.hid hz0
    clear hsr hir hown hs0 hi0 hk0 hz0
    have hne : w.heap.size ≠ b := by omega
    go_wp2_with (at_next; refine wpList_set_next rfl (.tmp 6) rfl w.heap.size b s done rfl HR.out HI.out hne ?_ ?_)
    · intro hall
      have HA := Lib.hid hall
      clear hall
      have hdl2 : (done.map fun i => s.getD i 0).length < 4611686018427387904 := by simp; omega
      go_wp2_with (go_at_call 54; refine (sort_own u3 _ _ HO.out hdl2).mono ?_; rintro e w1 ⟨rfl, ho, hk⟩; have HO1 := Lib.hid ho; clear ho)
      go_ret
      have hp := iter_perm s done HI.out.1 HI.out.2.1 HA.out
      refine ⟨u3, rfl, ?_, hkr.trans' hk (fun x hx => .inr ?_)⟩
      · rw [sort_perm hp] at HO1
        exact HO1.out.mono (by omega)
      · have := (HO.out.lt x (by simpa using hx)).1
        omega
    · intro i x w1 hnd hx hs1 hi1 hk1 hz1' hen
      have HX := Lib.hid hx
      have HS1 := Lib.hid hs1
      have HI1 := Lib.hid hi1
      have HO1 := Lib.hid (HO.out.kept hk1 (fun y hy => by have := (HO.out.lt y hy).1; simp; omega))
      have HK1 := Lib.hid (hkr.trans' hk1 (by simp))
      have HZ1 := Lib.hid hz1'
      have hsz1 : w.heap.size + 1 ≤ w1.heap.size := by omega
      clear hx hs1 hi1 hk1 hz1' hkr
      have hdl3 : done.length < s.length := by
        have h1 := HI1.out.1
        have h2 := HI1.out.2.1
        have := nodup_le _ _ h1 h2
        simp at this
        omega
      go_wp2_with (refine wpList_append1 (.tmp 11) (.tmp 12) 22 3 rfl rfl rfl rfl rfl i0 (.int .i64 0) 1 8 Try.underlying22 hi hz0 hz1 hz2 rfl (by decide) (by decide) (w.heap.size + 1) _ _ (fun _ => rfl) (fun _ => rfl) [.int .i64 x] rfl rfl (by simp [Value.oneCell']) HO1.out (by simp; omega) (by simp; omega) (by omega) ?_; intro v2 w2 ho2 hk2 hl2; clear hl2; have HO2 := Lib.hid ho2; have HK2 := Lib.hid hk2; clear ho2 hk2)
      go_roundg (s.length - (done ++ [i]).length)
      case rel =>
        have hkk : Kept u3.ownBlock.toList w1 w2 := HK2.out _ (by intro y hy; simp [hy])
        refine ⟨done ++ [i], rfl, by simp; omega, HS1.out.kept hkk ?_, ?_, ?_, HK1.out.trans' hkk ?_, ?_⟩
        · intro hb
          have := (HO1.out.lt b (by simpa using hb)).1
          omega
        · refine ⟨HI1.out.1, HI1.out.2.1, hkk.get HI1.out.2.2 ?_⟩
          intro hb
          have := (HO1.out.lt _ (by simpa using hb)).1
          omega
        · have : s.getD i 0 = x := by simp [List.getD, HX.out]
          rw [List.map_append, irows_append]
          simp only [List.map_cons, List.map_nil, this]
          exact HO2.out
        · intro y hy
          have := (HO1.out.lt y (by simpa using hy)).1
          right; omega
        · have := hkk.size; omega
      case measure => simp; omega
end Go.Proofs.Ytkldomkooleecaa
