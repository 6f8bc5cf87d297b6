/- Walks for CacheCapacity: New at every capacity, Within, a full cache. -/
import Derived.Test.YtkldomkooleecaaDoorSane31
namespace Go.Proofs.YtkldomkooleecaaDoor
open Go.RowKit

set_option maxRecDepth 100000 in
theorem cacheNewAny (c : Int) (w : World) : Calls Tryd.prog 7 #[.int .i64 c] w fun e w' => e = .returned (.pointer (some ⟨w.heap.size + 1, 0, none⟩)) ∧ Blk w' (w.heap.size + 1) [.int .i64 (min (max c 0) 200), .int .i64 0, .slice none 0 0, .map (some w.heap.size)] 64 ∧ w'.heap.size = w.heap.size + 2 ∧ Kept [] w w' := by
  have hmm := @run_makeMap Tryd.prog
  go_enter Tryd.func7, Tryd.ntmps7
  go_wp2
  all_goals
    go_ret
    refine ⟨rfl, ?_, by simp, ((Kept.refl [] w).alloc _).alloc _⟩
    first
      | (rw [show min (max c 0) 200 = 0 by omega]; exact halloc_new _ _ _ (by simp))
      | (rw [show min (max c 0) 200 = 200 by omega]; exact halloc_new _ _ _ (by simp))
      | (rw [show min (max c 0) 200 = c by omega]; exact halloc_new _ _ _ (by simp))

set_option maxRecDepth 100000 in
set_option maxHeartbeats 1600000 in
theorem within205 (n : Int) (_h1 : -9223372036854775808 ≤ n) (_h2 : n ≤ 9223372036854775807) : ∃ r : Int, 0 ≤ r ∧ r ≤ 205 ∧ ∀ w : World, Calls Tryd.prog 16 #[.int .i64 n, .int .i64 0, .int .i64 205] w fun e w' => e = .returned (.int .i64 r) ∧ w' = w := by
  refine ⟨if n.tmod 206 < 0 then n.tmod 206 + 206 else n.tmod 206, ?_, ?_, fun w => ?_⟩
  · have := Int.tmod_lt_of_pos n (show (0 : Int) < 206 by decide); have := Int.lt_tmod_of_pos n (show (0 : Int) < 206 by decide); split <;> omega
  · have := Int.tmod_lt_of_pos n (show (0 : Int) < 206 by decide); split <;> omega
  · have g1 := Int.tmod_lt_of_pos n (show (0 : Int) < 206 by decide)
    have g2 := Int.lt_tmod_of_pos n (show (0 : Int) < 206 by decide)
    go_enter Tryd.func16, Tryd.ntmps16
    go_wp2
    all_goals go_ret
    · exact ⟨by rw [show n.tmod 206 + 205 + 1 = n.tmod 206 + 206 by omega]; rfl, rfl⟩
    · exact ⟨by first | rfl | simp, rfl⟩

set_option maxRecDepth 100000 in
set_option maxHeartbeats 1600000 in
/-- A full cache takes no more. -/
theorem cacheAddFull (d : Nat) (b base : Nat) (cap last : Int) (mp : Value) (l : List Cp) (xi xm tk : Int) (tn : ByteArray) (ti xf xu : Int) (a1 a2 : Option Addr) (n1 n2 c1 c2 : Nat) (w : World)
    (h : Cch d w b base cap last mp l) (hm : 1 ≤ xm) (hf : 1 ≤ xf) (hu : xf < xu) (hcap : cap ≤ (l.length : Int)) (_hll : l.length ≤ 100000) (h0 : xu ≠ 0) :
    Calls Tryd.prog 9 #[.pointer (some ⟨b, 0, none⟩), .agg #[.int .i64 xi, .int .i64 xm, .int .i64 tk, .string tn, .int .i64 ti, .slice a1 n1 c1, .int .i64 xf, .int .i64 xu, .int .i64 0, .int .i64 0, .slice none 0 0, .slice none 0 0, .slice none 0 0, .slice a2 n2 c2]] w fun e w' => e = .returned (.tuple #[.int .i64 0, .int .i64 8]) ∧ Kept [] w w' := by
  obtain ⟨a, c, g1, g2, g3, g4, e0, e1, e2, e3, hb, hg, h5⟩ := h.form
  have hbl := hb.lt
  clear h hb hg h5 e1 e3
  have q1 : decide (xm < 1) = false := by simp; omega
  have q2 : decide (xf < 1) = false := by simp; omega
  have q3 : (xu != 0) = true := by simpa using h0
  have q5 : decide (xu ≤ xf) = false := by simpa using hu
  have q4 : decide ((l.length : Int) ≥ cap) = true := by simpa using hcap
  go_enter Tryd.func9, Tryd.ntmps9
  go_wp2
  go_quiet (fail)
  all_goals go_wp2
  all_goals
    go_ret2
    exact ⟨rfl, ((Kept.refl [] w).alloc _).drewN _⟩
end Go.Proofs.YtkldomkooleecaaDoor
