/- The library's tables, out of the row's laid variables. -/
import Derived.Test.YtkldomkooleecaaGreatDoorTyKey
import Derived.Test.YtkldomkooleecaaGreatDoorRows
import Derived.Lib.LaidPrint
import Derived.Lib.LaidU8T
namespace Go.Proofs.YtkldomkooleecaaGreatDoor
open Go.RowKit Go.Lib Go.Shelf

theorem same16 : Rows.laid_strconv_isPrint16 = sliceData .u16 goPrintTabs.p16 := by kernel_rfl
theorem sameN16 : Rows.laid_strconv_isNotPrint16 = sliceData .u16 goPrintTabs.n16 := by kernel_rfl
theorem same32 : Rows.laid_strconv_isPrint32 = sliceData .u32 goPrintTabs.p32 := by kernel_rfl
theorem sameN32 : Rows.laid_strconv_isNotPrint32 = sliceData .u16 goPrintTabs.n32 := by kernel_rfl
theorem sameFirst : Rows.laid_unicode_utf8_first = firstData := by kernel_rfl
theorem sameAcc : (Rows.laid_unicode_utf8_acceptRanges : DataW Unit) = acceptData := by kernel_rfl
theorem samePow : (Rows.laid_internal_strconv_uint64pow10 : DataW Unit) = tabData .u64 pow10Tab := by kernel_rfl

theorem u8types : U8Types Tryz.prog Tryz.lays289_ren := { Tryz.lays289 with }
theorem u8extra : U8Extra Tryz.prog Tryz.lays289_ren := ⟨by kernel_rfl, by kernel_rfl, by kernel_rfl, by kernel_rfl, by kernel_rfl, by kernel_rfl, by kernel_rfl⟩

theorem pow_of_reads {w : World} (h : VarReads Tryz.prog w "internal/strconv.uint64pow10" (tabData .u64 pow10Tab)) : TabIs Tryz.prog w "internal/strconv.uint64pow10" .u64 pow10Tab := by
  obtain ⟨g, t, cs, fuel, p, hg, hty, hvar, hd⟩ := h
  have hg0 : Tryz.prog.globalNamed "internal/strconv.uint64pow10" = some 0 := by kernel_rfl
  obtain rfl := Option.some.inj (hg0.symm.trans hg)
  obtain ⟨tt, ht0, e, ht1, he1, hc1, hc2⟩ : ∃ tt, (Tryz.prog.globals[0]?).map (·.type) = some tt ∧ ∃ e, Tryz.prog.underlying tt = some (.array 20 e) ∧ Tryz.prog.underlying e = some (.int .u64) ∧ Tryz.prog.cellsOf e = 1 ∧ Tryz.prog.cellsOf tt = 20 := by
    have h0 : (Tryz.prog.globals[0]?).map (·.type) = some 169 := by kernel_rfl
    have h1 : Tryz.prog.underlying 169 = some (.array 20 148) := by kernel_rfl
    have h2 : Tryz.prog.underlying 148 = some (.int .u64) := by kernel_rfl
    have h3 : Tryz.prog.cellsOf 148 = 1 := by kernel_rfl
    have h4 : Tryz.prog.cellsOf 169 = 20 := by kernel_rfl
    exact ⟨_, h0, _, h1, h2, h3, h4⟩
  obtain rfl := Option.some.inj (ht0.symm.trans hty)
  have hcs := cells_of_tab ht1 he1 hc1 hc2 hd
  unfold TabIs
  rw [hvar, ← hcs]

set_option maxRecDepth 100000 in
theorem tabs_of {w : World} (h : laidMet Tryz.prog Rows.graphOperationsUptoRow.laid w) : Tabs w.heap.size w := by
  have e2 : VarReads Tryz.prog w "internal/strconv.uint64pow10" Rows.laid_internal_strconv_uint64pow10 := laidMet.reads h (.tail _ (.tail _ (.head _)))
  have e3 : VarReads Tryz.prog w "unicode/utf8.acceptRanges" Rows.laid_unicode_utf8_acceptRanges := laidMet.reads h (.tail _ (.tail _ (.tail _ (.head _))))
  have e5 : VarReads Tryz.prog w "strconv.isNotPrint16" Rows.laid_strconv_isNotPrint16 := laidMet.reads h (.tail _ (.tail _ (.tail _ (.tail _ (.tail _ (.head _))))))
  have e6 : VarReads Tryz.prog w "strconv.isNotPrint32" Rows.laid_strconv_isNotPrint32 := laidMet.reads h (.tail _ (.tail _ (.tail _ (.tail _ (.tail _ (.tail _ (.head _)))))))
  have e7 : VarReads Tryz.prog w "strconv.isPrint16" Rows.laid_strconv_isPrint16 := laidMet.reads h (.tail _ (.tail _ (.tail _ (.tail _ (.tail _ (.tail _ (.tail _ (.head _))))))))
  have e8 : VarReads Tryz.prog w "strconv.isPrint32" Rows.laid_strconv_isPrint32 := laidMet.reads h (.tail _ (.tail _ (.tail _ (.tail _ (.tail _ (.tail _ (.tail _ (.tail _ (.head _)))))))))
  have e9 : VarReads Tryz.prog w "unicode/utf8.first" Rows.laid_unicode_utf8_first := laidMet.reads h (.tail _ (.tail _ (.tail _ (.tail _ (.tail _ (.tail _ (.tail _ (.tail _ (.tail _ (.head _))))))))))
  rw [samePow] at e2
  rw [sameAcc] at e3
  rw [sameN16] at e5
  rw [sameN32] at e6
  rw [same16] at e7
  rw [same32] at e8
  rw [sameFirst] at e9
  have hu : UT w := utf8Tabs_of_readsT u8types u8extra e9 e3
  have hi : IT w := tabBelow_of_tabIs (pow_of_reads e2)
  have hp : PT goPrintTabs w :=
    ⟨tabSlice_of_reads (t := 176) (e := 175) (by kernel_rfl) (by kernel_rfl) (by kernel_rfl) (by kernel_rfl) (by kernel_rfl) (by decide) e7,
     tabSlice_of_reads (t := 176) (e := 175) (by kernel_rfl) (by kernel_rfl) (by kernel_rfl) (by kernel_rfl) (by kernel_rfl) (by decide) e5,
     tabSlice_of_reads (t := 178) (e := 146) (by kernel_rfl) (by kernel_rfl) (by kernel_rfl) (by kernel_rfl) (by kernel_rfl) (by decide) e8,
     tabSlice_of_reads (t := 176) (e := 175) (by kernel_rfl) (by kernel_rfl) (by kernel_rfl) (by kernel_rfl) (by kernel_rfl) (by decide) e6,
     by decide, by decide, by decide⟩
  exact ⟨w, Nat.le_refl _, ⟨hp, hu, hi⟩, Below.refl _ _⟩
end Go.Proofs.YtkldomkooleecaaGreatDoor
