/- The sanity check of the laws of reclamation. -/
import Derived.Test.YtkldomkooleecaaStacks
namespace Go.Proofs.Ytkldomkooleecaa
open Go.RowKit

/-- A row literal in a block of its own. -/
theorem lit_rows {w : World} {b size : Nat} {t : TypeId} (rows : List (List Value)) (h : Blk w b rows.flatten t) (hr : ∀ r ∈ rows, r.length = size ∧ ∀ u ∈ r, u.oneCell' = true) (hl : rows.length ≤ 1000000) :
    Reads (fun _ => True) w (.slice (some ⟨b, 0, none⟩) rows.length rows.length) size rows := by
  refine ⟨hr, _, _, rfl, Nat.le_refl _, by unfold maxLen; omega, .inr ⟨b, 0, rfl, trivial, h.lt, fun k r hk j u hu => ?_⟩⟩
  rw [Nat.zero_add]
  exact h.cell _ _ (flatten_get (fun r hr' => (hr r hr').1) hk hu)
theorem lit_ints {w : World} {b : Nat} {t : TypeId} (l : List Int) (h : Blk w b (l.map (Value.int .i64)) t) (hl : l.length ≤ 1000000) : Reads (fun _ => True) w (.slice (some ⟨b, 0, none⟩) l.length l.length) 1 (irows l) := by
  have := lit_rows (irows l) (by rw [irows_flatten]; exact h) (irows_cell l) (by simpa using hl)
  simpa using this

def saneCodes : List Cc := [⟨1, 1, .int .i64 0, .string ⟨#[]⟩, .int .i64 0, .slice none 0 0, 2, 5, .int .i64 0, .int .i64 0, .slice none 0 0, .slice none 0 0, .slice none 0 0, .slice none 0 0⟩,
  ⟨2, 1, .int .i64 0, .string ⟨#[]⟩, .int .i64 0, .slice none 0 0, 2, 0, .int .i64 0, .int .i64 0, .slice none 0 0, .slice none 0 0, .slice none 0 0, .slice none 0 0⟩,
  ⟨3, 1, .int .i64 0, .string ⟨#[]⟩, .int .i64 0, .slice none 0 0, 3, 4, .int .i64 0, .int .i64 0, .slice none 0 0, .slice none 0 0, .slice none 0 0, .slice none 0 0⟩]
def saneFrame : Fr := ⟨3, 0, 4, 0, .slice none 0 0⟩

theorem heap1 (w : World) (o : Obj) : (w.alloc o).heap[w.heap.size]? = some o := halloc_new _ _ _ rfl

theorem saneStk (w : World) (k : Nat) (hk : k = w.heap.size) : Stk (fun _ => True) ((w.alloc (.cells #[.int .i64 3, .int .i64 0, .int .i64 4, .int .i64 0, .slice none 0 0] 43)).alloc (.cells #[.slice (some ⟨k, 0, none⟩) 1 1] 25))
    (.slice (some ⟨k + 1, 0, none⟩) 1 1) [[saneFrame]] := by
  subst hk
  refine ⟨[.slice (some ⟨w.heap.size, 0, none⟩) 1 1], rfl, ?_, fun k u f hu hf => ?_⟩
  · exact lit_rows (t := 25) (size := 1) [[.slice (some ⟨w.heap.size, 0, none⟩) 1 1]] (halloc_new _ _ _ (by simp)) (by simp [Value.oneCell']) (by simp)
  · match k, hu, hf with
    | 0, hu, hf =>
      simp at hu hf
      subst hu hf
      exact lit_rows (t := 43) (size := 5) (frows [saneFrame]) ((halloc_old _ _ _ (by simp)).trans (halloc_new _ _ _ rfl)) (by simp [frows, saneFrame, Fr.cells, Value.oneCell']) (by simp)
    | k + 1, hu, hf => simp at hu

set_option maxRecDepth 100000 in
set_option maxHeartbeats 3200000 in
theorem sane (w : World) : Calls Try.prog 18 #[] w fun e w' => e = .returned (.bool true) ∧ Kept [] w w' := by
  have hcod : ∀ (w : World) (k : Nat), k = w.heap.size → Reads (fun _ => True) (w.alloc (.cells (crows saneCodes).flatten.toArray 65)) (.slice (some ⟨k, 0, none⟩) 3 3) 14 (crows saneCodes) := fun w k hk => by subst hk; exact lit_rows (crows saneCodes) (halloc_new _ _ _ rfl) (by simp [crows, saneCodes, Cc.cells, Value.oneCell']) (by simp [saneCodes])
  have HCOD := Lib.hid hcod
  clear hcod
  go_enter Try.func18, Try.ntmps18
  go_wp2_with (first
    | (go_at_call 14; refine Calls.mono (liveWorlds 6 _ [[saneFrame]] _ (by exact saneStk _ _ (by simp)) (by decide) (by decide)) ?_; rintro e w1 ⟨r4, rfl, ho1, hk1⟩; have HW := Lib.hid (show Reads (fun _ => True) w1 r4 1 (irows [4, 6]) from ho1.rows.mono (fun _ _ _ => trivial)); have HS := Lib.hid ((saneStk _ _ (by simp)).kept hk1 (by simp)); have HC := Lib.hid (((HCOD.out (w.alloc (.cells #[.int .i64 1, .int .i64 1, .int .i64 0, .string ⟨#[]⟩, .int .i64 0, .slice none 0 0, .int .i64 2, .int .i64 5, .int .i64 0, .int .i64 0, .slice none 0 0, .slice none 0 0, .slice none 0 0, .slice none 0 0] 65)) (w.heap.size + 1) (by simp)).kept (((Kept.refl [] _).alloc _).alloc _) (by simp)).kept hk1 (by simp)); have hk := (((((Kept.refl [] w).alloc _).alloc _).alloc _).alloc _).trans hk1; clear ho1 hk1)
    | (go_at_call 15; refine Calls.mono (activeCodes _ [[saneFrame]] _ (by exact HS.out) (by decide) (by decide)) ?_; rintro e w2 ⟨r5, rfl, ho2, hk2⟩; have HA := Lib.hid (show Reads (fun _ => True) w2 r5 1 (irows [3]) from ho2.rows.mono (fun _ _ _ => trivial)); have HW := Lib.hid (HW.out.kept hk2 (by simp)); have HC := Lib.hid (HC.out.kept hk2 (by simp)); have hk := hk.trans hk2; clear ho2)
    | (go_at_call_of 13 r4; refine Calls.mono (eqInts _ _ [4, 6] _ (by exact HW.out.kept ((Kept.refl [] _).alloc _) (by simp)) (by exact lit_ints [4, 6] (halloc_new _ _ _ rfl) (by decide))) ?_; rintro e w3 ⟨rfl, hk3⟩; have hk3 := ((Kept.refl [] w2).alloc _).trans hk3; have HW := Lib.hid (HW.out.kept hk3 (by simp)); have HA := Lib.hid (HA.out.kept hk3 (by simp)); have HC := Lib.hid (HC.out.kept hk3 (by simp)); have hk := hk.trans hk3; clear hk3)
    | (go_at_call_of 13 r5; refine Calls.mono (eqInts _ _ [3] _ (by exact HA.out.kept ((Kept.refl [] _).alloc _) (by simp)) (by exact lit_ints [3] (halloc_new _ _ _ rfl) (by decide))) ?_; rintro e w4 ⟨rfl, hk3⟩; have hk3 := ((Kept.refl [] w3).alloc _).trans hk3; have HW := Lib.hid (HW.out.kept hk3 (by simp)); have HA := Lib.hid (HA.out.kept hk3 (by simp)); have HC := Lib.hid (HC.out.kept hk3 (by simp)); have hk := hk.trans hk3; clear hk3)
    | (go_at_call_of 16 r5; refine Calls.mono (unreachable _ _ _ saneCodes [3] [4, 6] _ (by exact HC.out) (by exact HA.out) (by exact HW.out) (by decide)) ?_; rintro e w5 ⟨r6, rfl, ho3, hk3⟩; obtain ⟨a6, c6, rfl, _, _⟩ := ho3.shape; have HC := Lib.hid (HC.out.kept hk3 (by simp)); have hk := hk.trans hk3; clear hk3 ho3)
    | (go_at_call 16; refine Calls.mono (unreachable _ _ _ saneCodes [] [6] _ (by exact HC.out.kept ((Kept.refl [] _).alloc _) (by simp)) (by exact Reads.nil (fun _ => True) _ _) (by exact lit_ints [6] (halloc_new _ _ _ rfl) (by decide)) (by decide)) ?_; rintro e w6 ⟨r7, rfl, ho3, hk3⟩; have hk3 := ((Kept.refl [] w5).alloc _).trans hk3; have HR := Lib.hid (show Reads (fun _ => True) w6 r7 1 (irows [1, 3]) from ho3.rows.mono (fun _ _ _ => trivial)); have hk := hk.trans hk3; clear hk3 ho3)
    | (go_at_call_of 13 r7; refine Calls.mono (eqInts _ _ [1, 3] _ (by exact HR.out.kept ((Kept.refl [] _).alloc _) (by simp)) (by exact lit_ints [1, 3] (halloc_new _ _ _ rfl) (by decide))) ?_; rintro e w7 ⟨rfl, hk3⟩; have hk := (hk.alloc (.cells #[.int .i64 1, .int .i64 3] 3)).trans hk3; clear hk3))
  go_ret
  exact ⟨rfl, hk⟩
end Go.Proofs.Ytkldomkooleecaa
