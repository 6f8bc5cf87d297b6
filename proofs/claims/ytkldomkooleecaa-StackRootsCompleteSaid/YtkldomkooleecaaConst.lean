/- Walks: constants off a tape. -/
import Derived.Test.YtkldomkooleecaaEqVals
namespace Go.Proofs.Ytkldomkooleecaa
open Go.RowKit

set_option maxRecDepth 100000 in
set_option maxHeartbeats 1600000 in
theorem tapeConst (b m : Nat) (w : World) (h : Tp w b m) (hm : m ≤ 1000000) :
    Calls Try.prog 44 #[.pointer (some ⟨b, 0, none⟩)] w fun e w' => ∃ (k n : Int) (s : ByteArray), e = .returned (.agg #[.int .i64 k, .int .i64 n, .string s, .slice none 0 0]) ∧ k ≠ 4 ∧ k ≠ 5 ∧ Tp w' b (m + 2) ∧ Kept [b] w w' := by
  have hbl := h.lt
  go_enter Try.func44, Try.ntmps44
  go_wp2_with fail
  refine Calls.mono (tapeNext b m 6 _ (by exact h.kept ((Kept.refl [] w).alloc _) (by simp)) (by omega) (by omega)) ?_
  rintro e w1 ⟨r, rfl, hr0, _, hr1, hT, hk1⟩
  have hr1 := hr1 (by omega)
  have hb1 := (Blk.new w [.int .i64 0, .int .i64 0, .string ⟨#[]⟩, .slice none 0 0] 50).kept hk1 (by simp; omega)
  have hk1' := ((Kept.refl [b] w).alloc (.cells #[.int .i64 0, .int .i64 0, .string ⟨#[]⟩, .slice none 0 0] 50)).trans hk1
  have hs1 := hk1.size
  simp only [World.size_alloc] at hs1
  have hcase : r = 0 ∨ r = 1 ∨ r = 2 ∨ r = 3 ∨ (r = 4 ∨ r = 5) := by omega
  have key : ∀ (w2 : World) (k n : Int) (s : ByteArray), k ≠ 4 → k ≠ 5 → Kept [b] w w2 → Tp w2 b (m + 2) → Blk w2 w.heap.size [.int .i64 0, .int .i64 0, .string ⟨#[]⟩, .slice none 0 0] 50 →
      Blk ((((w2.setCell ⟨w.heap.size, 0, none⟩ (.int .i64 k)).setCell ⟨w.heap.size, 1, none⟩ (.int .i64 n)).setCell ⟨w.heap.size, 2, none⟩ (.string s)).setCell ⟨w.heap.size, 3, none⟩ (.slice none 0 0)) w.heap.size [.int .i64 k, .int .i64 n, .string s, .slice none 0 0] 50 ∧
      Tp ((((w2.setCell ⟨w.heap.size, 0, none⟩ (.int .i64 k)).setCell ⟨w.heap.size, 1, none⟩ (.int .i64 n)).setCell ⟨w.heap.size, 2, none⟩ (.string s)).setCell ⟨w.heap.size, 3, none⟩ (.slice none 0 0)) b (m + 2) ∧
      Kept [b] w ((((w2.setCell ⟨w.heap.size, 0, none⟩ (.int .i64 k)).setCell ⟨w.heap.size, 1, none⟩ (.int .i64 n)).setCell ⟨w.heap.size, 2, none⟩ (.string s)).setCell ⟨w.heap.size, 3, none⟩ (.slice none 0 0)) := by
    intro w2 k n s _ _ hk ht hb
    have hkF : Kept [w.heap.size] w2 ((((w2.setCell ⟨w.heap.size, 0, none⟩ (.int .i64 k)).setCell ⟨w.heap.size, 1, none⟩ (.int .i64 n)).setCell ⟨w.heap.size, 2, none⟩ (.string s)).setCell ⟨w.heap.size, 3, none⟩ (.slice none 0 0)) :=
      ((((Kept.refl _ w2).setCell (by simp) _).setCell (by simp) _).setCell (by simp) _).setCell (by simp) _
    exact ⟨(((hb.set 0 (.int .i64 k)).set 1 (.int .i64 n)).set 2 (.string s)).set 3 (.slice none 0 0), ht.kept hkF (by simp; omega), hk.trans' hkF (by simp)⟩
  have KEY := Lib.hid key
  clear key
  rcases hcase with rfl | rfl | rfl | rfl | hcase
  · go_wp2_with fail
    refine Calls.mono (tapeNext b _ 9 _ (by exact hT) (by omega) (by omega)) ?_
    rintro e w2 ⟨r2, rfl, hq0, _, hq1, hT2, hk2⟩
    have hq1 := hq1 (by omega)
    have hb2 := hb1.kept hk2 (by simp; omega)
    obtain ⟨⟨i0, i1, i2, i3⟩, j0, j1, j2, j3⟩ := hb2.four
    have HB2 := Lib.hid hb2
    clear hb2
    go_wp2
    obtain ⟨g1, g2, g3⟩ := KEY.out w2 1 (r2 - 3) ⟨#[]⟩ (by decide) (by decide) (hk1'.trans hk2) (hT2.more (by omega)) HB2.out
    exact bodyPost_ret (results_blk rfl _ _ w.heap.size 50 [.int .i64 1, .int .i64 (r2 - 3), .string ⟨#[]⟩, .slice none 0 0] _ rfl g1 Try.underlying50 rfl (by kernel_rfl)) rfl ⟨_, _, _, rfl, by decide, by decide, g2, g3⟩
  · go_wp2_with fail
    refine Calls.mono (tapeNext b _ 2 _ (by exact hT) (by omega) (by omega)) ?_
    rintro e w2 ⟨r2, rfl, hq0, _, hq1, hT2, hk2⟩
    have hq1 := hq1 (by omega)
    have hb2 := hb1.kept hk2 (by simp; omega)
    obtain ⟨⟨i0, i1, i2, i3⟩, j0, j1, j2, j3⟩ := hb2.four
    have HB2 := Lib.hid hb2
    clear hb2
    go_wp2
    obtain ⟨g1, g2, g3⟩ := KEY.out w2 2 r2 ⟨#[]⟩ (by decide) (by decide) (hk1'.trans hk2) (hT2.more (by omega)) HB2.out
    exact bodyPost_ret (results_blk rfl _ _ w.heap.size 50 [.int .i64 2, .int .i64 r2, .string ⟨#[]⟩, .slice none 0 0] _ rfl g1 Try.underlying50 rfl (by kernel_rfl)) rfl ⟨_, _, _, rfl, by decide, by decide, g2, g3⟩
  · go_wp2_with fail
    refine Calls.mono (tapeNext b _ 3 _ (by exact hT) (by omega) (by omega)) ?_
    rintro e w2 ⟨r2, rfl, hq0, _, hq1, hT2, hk2⟩
    have hq1 := hq1 (by omega)
    have hb2 := hb1.kept hk2 (by simp; omega)
    obtain ⟨⟨i0, i1, i2, i3⟩, j0, j1, j2, j3⟩ := hb2.four
    have HB2 := Lib.hid hb2
    clear hb2
    have hc3 : r2 = 0 ∨ r2 = 1 ∨ r2 = 2 := by omega
    rcases hc3 with rfl | rfl | rfl
    · go_wp2
      obtain ⟨g1, g2, g3⟩ := KEY.out w2 3 0 ByteArray.empty (by decide) (by decide) (hk1'.trans hk2) (hT2.more (by omega)) HB2.out
      exact bodyPost_ret (results_blk rfl _ _ w.heap.size 50 [.int .i64 3, .int .i64 0, .string ByteArray.empty, .slice none 0 0] _ rfl g1 Try.underlying50 rfl (by kernel_rfl)) rfl ⟨_, _, _, rfl, by decide, by decide, g2, g3⟩
    · go_wp2
      obtain ⟨g1, g2, g3⟩ := KEY.out w2 3 0 ((⟨#[97, 98]⟩ : ByteArray).extract 0 1) (by decide) (by decide) (hk1'.trans hk2) (hT2.more (by omega)) HB2.out
      exact bodyPost_ret (results_blk rfl _ _ w.heap.size 50 [.int .i64 3, .int .i64 0, .string ((⟨#[97, 98]⟩ : ByteArray).extract 0 1), .slice none 0 0] _ rfl g1 Try.underlying50 rfl (by kernel_rfl)) rfl ⟨_, _, _, rfl, by decide, by decide, g2, g3⟩
    · go_wp2
      obtain ⟨g1, g2, g3⟩ := KEY.out w2 3 0 ((⟨#[97, 98]⟩ : ByteArray).extract 0 2) (by decide) (by decide) (hk1'.trans hk2) (hT2.more (by omega)) HB2.out
      exact bodyPost_ret (results_blk rfl _ _ w.heap.size 50 [.int .i64 3, .int .i64 0, .string ((⟨#[97, 98]⟩ : ByteArray).extract 0 2), .slice none 0 0] _ rfl g1 Try.underlying50 rfl (by kernel_rfl)) rfl ⟨_, _, _, rfl, by decide, by decide, g2, g3⟩
  · go_wp2_with fail
    refine Calls.mono (tapeNext b _ 4611686018427387904 _ (by exact hT) (by omega) (by omega)) ?_
    rintro e w2 ⟨r2, rfl, hq0, _, _, hT2, hk2⟩
    have hb2 := hb1.kept hk2 (by simp; omega)
    obtain ⟨⟨i0, i1, i2, i3⟩, j0, j1, j2, j3⟩ := hb2.four
    have HB2 := Lib.hid hb2
    clear hb2
    go_wp2
    obtain ⟨g1, g2, g3⟩ := KEY.out w2 1 (wrap64 (r2 * 3)) ⟨#[]⟩ (by decide) (by decide) (hk1'.trans hk2) (hT2.more (by omega)) HB2.out
    exact bodyPost_ret (results_blk rfl _ _ w.heap.size 50 [.int .i64 1, .int .i64 (wrap64 (r2 * 3)), .string ⟨#[]⟩, .slice none 0 0] _ rfl g1 Try.underlying50 rfl (by kernel_rfl)) rfl ⟨_, _, _, rfl, by decide, by decide, g2, g3⟩
  · obtain ⟨⟨i0, i1, i2, i3⟩, j0, j1, j2, j3⟩ := hb1.four
    have HB2 := Lib.hid hb1
    clear hb1
    rcases hcase with rfl | rfl
    all_goals
      go_wp2
      obtain ⟨g1, g2, g3⟩ := KEY.out w1 0 0 ⟨#[]⟩ (by decide) (by decide) hk1' (hT.more (by omega)) HB2.out
      exact bodyPost_ret (results_blk rfl _ _ w.heap.size 50 [.int .i64 0, .int .i64 0, .string ⟨#[]⟩, .slice none 0 0] _ rfl g1 Try.underlying50 rfl (by kernel_rfl)) rfl ⟨_, _, _, rfl, by decide, by decide, g2, g3⟩
end Go.Proofs.Ytkldomkooleecaa
