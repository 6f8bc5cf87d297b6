/- The walk of the law StackDepth. -/
import Derived.Test.YtkldomkooleecaaSane34
import Derived.Deep.CutRange
namespace Go.Proofs.Ytkldomkooleecaa
open Go.RowKit

/-- A value of no kind. -/
def zVl : Vl := .mk 0 0 ⟨#[]⟩ []
theorem made_rows (n : Nat) : madeCells #[.int .i64 0, .int .i64 0, .string ⟨#[]⟩, .slice none 0 0] (n * 4) = (List.replicate n (zVl.row (.slice none 0 0))).flatten.toArray := by
  apply Array.ext_getElem?
  intro i
  have hl : (List.replicate n (zVl.row (.slice none 0 0))).flatten.length = n * 4 := by rw [flat_len (size := 4) (fun r hr => by rw [(List.mem_replicate.1 hr).2]; rfl)]; simp
  by_cases hi : i < n * 4
  · have h1 : (List.replicate n (zVl.row (.slice none 0 0)))[i / 4]? = some (zVl.row (.slice none 0 0)) := by rw [List.getElem?_replicate, if_pos (by omega)]
    have hj : i % 4 = 0 ∨ i % 4 = 1 ∨ i % 4 = 2 ∨ i % 4 = 3 := by omega
    have h2 : ∀ (j : Nat) (v : Value), i % 4 = j → (zVl.row (.slice none 0 0))[j]? = some v → (List.replicate n (zVl.row (.slice none 0 0))).flatten.toArray[i]? = some v := by
      intro j v hj hv
      have := flatten_get (size := 4) (fun r hr => by rw [(List.mem_replicate.1 hr).2]; rfl) h1 hv
      rw [show i / 4 * 4 + j = i by omega] at this
      simpa using this
    rcases hj with hj | hj | hj | hj
    · rw [h2 0 (.int .i64 0) hj rfl]; simp [madeCells, hi, hj]
    · rw [h2 1 (.int .i64 0) hj rfl]; simp [madeCells, hi, hj]
    · rw [h2 2 (.string ⟨#[]⟩) hj rfl]; simp [madeCells, hi, hj]
    · rw [h2 3 (.slice none 0 0) hj rfl]; simp [madeCells, hi, hj]
  · rw [Array.getElem?_eq_none (by simp [madeCells]; omega), Array.getElem?_eq_none (by simp only [List.size_toArray, hl]; omega)]

theorem made_VR {w : World} {k n : Nat} {S : Nat → Prop} {C : Array Value} (hC : C = madeCells #[.int .i64 0, .int .i64 0, .string ⟨#[]⟩, .slice none 0 0] (n * 4)) (hS : S k) (hn : n ≤ 1000) (h : w.heap[k]? = some (.cells C 50)) : VR 1 S w (.slice (some ⟨k, 0, none⟩) n n) (List.replicate n zVl) := by
  rw [hC, made_rows] at h
  refine ⟨by simpa using hn, List.replicate n (.slice none 0 0), by simp, ?_, fun i x e hx he => ?_⟩
  · have hz : List.zipWith Vl.row (List.replicate n zVl) (List.replicate n (.slice none 0 0)) = List.replicate n (zVl.row (.slice none 0 0)) := by rw [List.zipWith_replicate]; simp
    rw [hz]
    have hr := lit_rows (size := 4) (List.replicate n (zVl.row (.slice none 0 0))) h (fun r hr => by rw [(List.mem_replicate.1 hr).2]; exact ⟨rfl, by simp [zVl, Vl.row, Value.oneCell']⟩) (by simp; omega)
    obtain ⟨h1, a, cap, h2, h3, h4, h5⟩ := hr
    refine ⟨h1, a, cap, by simpa using h2, h3, h4, ?_⟩
    rcases h5 with h5 | ⟨b, off, e, _, g⟩
    · exact .inl h5
    · subst e
      simp only [Value.slice.injEq, Option.some.injEq, Addr.mk.injEq] at h2
      obtain ⟨⟨rfl, rfl, _⟩, _⟩ := h2
      exact .inr ⟨_, _, rfl, hS, g⟩
  · have hx' := (List.mem_replicate.1 (List.mem_of_getElem? hx)).2
    have he' := (List.mem_replicate.1 (List.mem_of_getElem? he)).2
    subst hx' he'
    exact VR.nil 0 _ _

theorem Sk.own_lt {d : Nat} {S : Nat → Prop} {w : World} {b : Nat} {g : Option Nat} {l : List Frm} (h : Sk d S w b g l) : ∀ x, g = some x → b < x ∧ x < w.heap.size := by
  obtain ⟨v, rfl, _, hg⟩ := h
  exact fun x hx => ⟨(hg.lt x hx).1, (hg.lt x hx).2⟩

theorem info_value0 : ∃ i, Try.prog.info? 50 = some i ∧ i.zero = some (.agg #[.int .i64 0, .int .i64 0, .string ⟨#[]⟩, .slice none 0 0]) ∧ i.size = 4 ∧ i.bytes = 56 := by
  have h : (Try.prog.info? 50).map (fun i => (i.zero, i.size, i.bytes)) = some (some (.agg #[.int .i64 0, .int .i64 0, .string ⟨#[]⟩, .slice none 0 0]), 4, 56) := by kernel_rfl
  cases hi : Try.prog.info? 50 with
  | none => simp [hi] at h
  | some i => simp [hi] at h; exact ⟨i, rfl, h.1, h.2.1, h.2.2⟩
theorem made_run (n : Nat) (h : n ≤ 1000) (w : World) : (Instr.makeSlice 41 (.int .i64 (n : Int)) (.int .i64 (n : Int))).run Try.prog w = .ok (.slice (some ⟨w.heap.size, 0, none⟩) n n) (w.alloc (.cells (madeCells #[.int .i64 0, .int .i64 0, .string ⟨#[]⟩, .slice none 0 0] (n * 4)) 50)) := by
  obtain ⟨i, hi, hz, hs, hb⟩ := info_value0
  have := run_makeSlice (P := Try.prog) w 41 50 i _ Try.underlying41 hi hz .i64 .i64 n n (by omega) (Int.le_refl _) (by rw [hs]; simp; omega) (by rw [hb]; omega) (by omega)
  simpa [hs, Value.cells] using this

/-- Frame number i was pushed i-th. -/
def PCs (l : List Frm) : Prop := ∀ (i : Nat) (x : Frm), l[i]? = some x → x.pc = i
theorem PCs.snoc {l : List Frm} (h : PCs l) {x : Frm} (hx : x.pc = l.length) : PCs (l ++ [x]) := by
  intro i y hy
  rcases Nat.lt_or_ge i l.length with hl | hl
  · rw [List.getElem?_append_left hl] at hy; exact h i y hy
  · have := (List.getElem?_eq_some_iff.1 hy).1
    simp at this
    obtain rfl : i = l.length := by omega
    rw [List.getElem?_append_right (by omega)] at hy
    simp at hy
    subst hy
    exact hx
theorem PCs.init {l : List Frm} {x : Frm} (h : PCs (l ++ [x])) : PCs l ∧ x.pc = l.length :=
  ⟨fun i y hy => h i y (by rw [List.getElem?_append_left (List.getElem?_eq_some_iff.1 hy).1]; exact hy), h l.length x (by simp)⟩
theorem snoc_of (l : List Frm) (h : 0 < l.length) : ∃ l' x, l = l' ++ [x] :=
  ⟨l.dropLast, l.getLast (by rintro rfl; simp at h), (List.dropLast_concat_getLast _).symm⟩
end Go.Proofs.Ytkldomkooleecaa
