/- Walks over the cache: CountCall of the empty tuple. -/
import Derived.Test.YtkldomkooleecaaDoorMap
import Derived.Test.YtkldomkooleecaaDoorCache
namespace Go.Proofs.YtkldomkooleecaaDoor
open Go.RowKit

set_option maxRecDepth 100000 in
set_option maxHeartbeats 3200000 in
theorem countFirst (d : Nat) (b base : Nat) (cap last : Int) (mb : Nat) (l : List Cp) (a : Option Addr) (c : Nat) (w : World) (h : Cch d w b base cap last (.map (some mb)) l) (hm : w.heap[mb]? = some (.map #[] 0)) (hmb : mb ≠ b) :
    Calls Tryd.prog 26 #[.pointer (some ⟨b, 0, none⟩), .int .i64 3, .agg #[.int .i64 3, .string ⟨#[]⟩, .int .i64 0, .slice a 0 c]] w fun e w' => e = .returned (.int .i64 1) ∧ w'.heap[mb]? = some (oneMap 1) ∧ Kept [mb] w w' := by
  obtain ⟨va, vc, g1, g2, g3, g4, e0, e1, e2, e3, hb, hg, h5⟩ := h.form
  have hbl := hb.lt
  have H := Lib.hid h
  have hmbl : mb < w.heap.size := (Array.getElem?_eq_some_iff.1 hm).1
  clear h hb hg h5 e0 e1 e2
  go_enter Tryd.func26, Tryd.ntmps26
  go_wp2_with (go_at_call 46; refine Calls.mono (typeKey a c _) ?_; rintro e w1 ⟨rfl, hk1⟩; have hk1 := ((Kept.refl [] w).alloc (.cells #[.int .i64 3, .string ⟨#[]⟩, .int .i64 0, .slice a 0 c] 31)).trans hk1; have e3 := hk1.cell' e3 (by simp); have hm1 := hk1.get hm (by simp); have hbl1 : b < w1.heap.size := Nat.lt_of_lt_of_le hbl hk1.size)
  obtain ⟨X, hX⟩ : ∃ X : World, X = (w1.alloc (.cells #[.int .i64 3, .string key0] 82)).drew := ⟨_, rfl⟩
  have hkX : Kept [] w1 X := by rw [hX]; exact ((Kept.refl [] w1).alloc _).drew
  have hmX := hkX.get hm1 (by simp)
  have hlk : (Instr.lookup 62 (.map (some mb)) (.agg #[.int .i64 3, .string key0]) false).run Tryd.prog X = .ok (.int .i64 0) X := lookup_empty mb X hmX
  have hen : (Instr.mapEntry 62 (.map (some mb)) (.agg #[.int .i64 3, .string key0])).run Tryd.prog X = .ok (.tuple #[.int .i64 0, .int .i64 0]) (setO X mb (oneMap 0)) := entry_empty mb X hmX
  have hlk3 : (Instr.lookup 62 (.map (some mb)) (.agg #[.int .i64 3, .string key0]) false).run Tryd.prog (setO X mb (oneMap 0)) = .ok (.int .i64 0) (setO X mb (oneMap 0)) := lookup_one mb 0 _ (setO_get hmX)
  have hst : (Instr.entryStore 62 (.map (some mb)) (.int .i64 0) (.int .i64 1)).run Tryd.prog (setO X mb (oneMap 0)) = .ok () (setO (setO X mb (oneMap 0)) mb (oneMap 1)) := store_one mb 0 1 _ (setO_get hmX)
  have hKX : Hid (Blk X w1.heap.size [.int .i64 3, .string key0] 82) := by rw [hX]; exact (Blk.new w1 _ _).kept ((Kept.refl [] _).drew) (by simp)
  have HKX := Lib.hid hkX
  have HMX := Lib.hid hmX
  rw [hX] at hlk hen hst hlk3
  clear hkX hmX
  have hw : IntKind.i64.wrap (1) = 1 := by decide
  go_region_law (fail)
  all_goals
    rw [← hX]
    obtain ⟨Y, hY⟩ : ∃ Y : World, Y = setO (setO X mb (oneMap (0))) mb (oneMap (1)) := ⟨_, rfl⟩
    rw [← hY]
    have hkY : Kept [mb] X Y := by rw [hY]; exact ((Kept.refl _ _).setO (by simp) _).setO (by simp) _
    have hmY : Y.heap[mb]? = some (oneMap (1)) := by rw [hY]; exact setO_get (setO_get HMX.out)
    have e3 := (HKX.out.cell' e3 (by simp))
    have e3 := hkY.cell' e3 (by simpa using fun e => hmb e.symm)
    have hks := hk1.size
    have hKY := hKX.out.kept hkY (by simp; omega)
    have k0 := hKY.cell 0 _ rfl
    have k1 := hKY.cell 1 _ rfl
    have hbY : b < Y.heap.size := by have h1 := HKX.out.size; have h2 := hkY.size; omega
    have hkf : Kept [mb] w Y := ((hk1.trans HKX.out).nil).trans hkY
    have HKF := Lib.hid hkf
    have HMY := Lib.hid hmY
    have hlk2 : (Instr.lookup 62 (.map (some mb)) (.agg #[.int .i64 3, .string key0]) false).run Tryd.prog Y.drew = .ok (.int .i64 (1)) Y.drew := lookup_one mb (1) _ hmY
    clear hX hY hm hm1 hlk hen hst hlk3 hkY hmY hKY hkf hks
  all_goals go_wp2
  all_goals go_region_law (fail)
  all_goals go_wp2
  all_goals
    go_ret
    exact ⟨rfl, HMY.out, HKF.out.drew⟩

set_option maxRecDepth 100000 in
set_option maxHeartbeats 3200000 in
theorem countNext (d : Nat) (b base : Nat) (cap last : Int) (mb : Nat) (l : List Cp) (n : Int) (a : Option Addr) (c : Nat) (w : World) (h : Cch d w b base cap last (.map (some mb)) l) (hm : w.heap[mb]? = some (oneMap n)) (hmb : mb ≠ b) (hn : 0 ≤ n) (hn1 : n ≤ 1000) :
    Calls Tryd.prog 26 #[.pointer (some ⟨b, 0, none⟩), .int .i64 3, .agg #[.int .i64 3, .string ⟨#[]⟩, .int .i64 0, .slice a 0 c]] w fun e w' => e = .returned (.int .i64 (n + 1)) ∧ w'.heap[mb]? = some (oneMap (n + 1)) ∧ Kept [mb] w w' := by
  obtain ⟨va, vc, g1, g2, g3, g4, e0, e1, e2, e3, hb, hg, h5⟩ := h.form
  have hbl := hb.lt
  have H := Lib.hid h
  have hmbl : mb < w.heap.size := (Array.getElem?_eq_some_iff.1 hm).1
  clear h hb hg h5 e0 e1 e2
  go_enter Tryd.func26, Tryd.ntmps26
  go_wp2_with (go_at_call 46; refine Calls.mono (typeKey a c _) ?_; rintro e w1 ⟨rfl, hk1⟩; have hk1 := ((Kept.refl [] w).alloc (.cells #[.int .i64 3, .string ⟨#[]⟩, .int .i64 0, .slice a 0 c] 31)).trans hk1; have e3 := hk1.cell' e3 (by simp); have hm1 := hk1.get hm (by simp); have hbl1 : b < w1.heap.size := Nat.lt_of_lt_of_le hbl hk1.size)
  obtain ⟨X, hX⟩ : ∃ X : World, X = (w1.alloc (.cells #[.int .i64 3, .string key0] 82)).drew := ⟨_, rfl⟩
  have hkX : Kept [] w1 X := by rw [hX]; exact ((Kept.refl [] w1).alloc _).drew
  have hmX := hkX.get hm1 (by simp)
  have hlk : (Instr.lookup 62 (.map (some mb)) (.agg #[.int .i64 3, .string key0]) false).run Tryd.prog X = .ok (.int .i64 n) X := lookup_one mb n X hmX
  have hen : (Instr.mapEntry 62 (.map (some mb)) (.agg #[.int .i64 3, .string key0])).run Tryd.prog X = .ok (.tuple #[.int .i64 n, .int .i64 0]) (setO X mb (oneMap n)) := entry_one mb n X hmX
  have hlk3 : (Instr.lookup 62 (.map (some mb)) (.agg #[.int .i64 3, .string key0]) false).run Tryd.prog (setO X mb (oneMap n)) = .ok (.int .i64 n) (setO X mb (oneMap n)) := lookup_one mb n _ (setO_get hmX)
  have hst : (Instr.entryStore 62 (.map (some mb)) (.int .i64 0) (.int .i64 (n + 1))).run Tryd.prog (setO X mb (oneMap n)) = .ok () (setO (setO X mb (oneMap n)) mb (oneMap (n + 1))) := store_one mb n (n + 1) _ (setO_get hmX)
  have hKX : Hid (Blk X w1.heap.size [.int .i64 3, .string key0] 82) := by rw [hX]; exact (Blk.new w1 _ _).kept ((Kept.refl [] _).drew) (by simp)
  have HKX := Lib.hid hkX
  have HMX := Lib.hid hmX
  rw [hX] at hlk hen hst hlk3
  clear hkX hmX
  have hw : IntKind.i64.wrap (n + 1) = n + 1 := IntWalk.i64_in _ (by omega)
  go_region_law (fail)
  all_goals
    rw [← hX]
    obtain ⟨Y, hY⟩ : ∃ Y : World, Y = setO (setO X mb (oneMap (n))) mb (oneMap (n + 1)) := ⟨_, rfl⟩
    rw [← hY]
    have hkY : Kept [mb] X Y := by rw [hY]; exact ((Kept.refl _ _).setO (by simp) _).setO (by simp) _
    have hmY : Y.heap[mb]? = some (oneMap (n + 1)) := by rw [hY]; exact setO_get (setO_get HMX.out)
    have e3 := (HKX.out.cell' e3 (by simp))
    have e3 := hkY.cell' e3 (by simpa using fun e => hmb e.symm)
    have hks := hk1.size
    have hKY := hKX.out.kept hkY (by simp; omega)
    have k0 := hKY.cell 0 _ rfl
    have k1 := hKY.cell 1 _ rfl
    have hbY : b < Y.heap.size := by have h1 := HKX.out.size; have h2 := hkY.size; omega
    have hkf : Kept [mb] w Y := ((hk1.trans HKX.out).nil).trans hkY
    have HKF := Lib.hid hkf
    have HMY := Lib.hid hmY
    have hlk2 : (Instr.lookup 62 (.map (some mb)) (.agg #[.int .i64 3, .string key0]) false).run Tryd.prog Y.drew = .ok (.int .i64 (n + 1)) Y.drew := lookup_one mb (n + 1) _ hmY
    clear hX hY hm hm1 hlk hen hst hlk3 hkY hmY hKY hkf hks
  all_goals go_wp2
  all_goals go_region_law (fail)
  all_goals go_wp2
  all_goals
    go_ret
    exact ⟨rfl, HMY.out, HKF.out.drew⟩
end Go.Proofs.YtkldomkooleecaaDoor
