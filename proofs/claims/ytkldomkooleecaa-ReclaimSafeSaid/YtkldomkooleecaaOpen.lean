/- What is handed to the laws of reclamation, opened. -/
import Derived.Test.YtkldomkooleecaaCodes
import Derived.Deep.Slices
namespace Go.Proofs.Ytkldomkooleecaa
open Go.RowKit

section
variable {H : Type} {enc : TypeId × Value → H} {w : World} {sp : Nat → Bool} {held : Bool}

theorem reads_open {P : Program} {α : Type} [Inhabited α] {t e : TypeId} {size fuel : Nat} {cs : List Value} {x : DataW H × List MemPlace} (ht : P.underlying t = some (.slice e)) (hc : P.cellsOf e = size) (hpos : 0 < size)
    (R : α → List Value) (Q : α → Prop) (hR : ∀ n cs x, DataW.trod enc P w 0 sp held n e cs = some x → ∃ a, cs = R a ∧ (R a).length = size ∧ (∀ u ∈ R a, u.oneCell' = true) ∧ Q a)
    (h : DataW.trod enc P w 0 sp held fuel t cs = some x) : ∃ (v : Value) (l : List α), cs = [v] ∧ v.oneCell' = true ∧ Reads (· < w.heap.size) w v size (l.map R) ∧ ∀ a ∈ l, Q a := by
  rcases Go.Deep.open_slice ht h with ⟨rfl, _⟩ | ⟨a, len, cap, m, n, D, Pl, rfl, _, hl, hm, hmm, _, hx⟩
  · exact ⟨_, [], rfl, rfl, Reads.nil _ _ _, by simp⟩
  · have hlm : len ≤ m := by rw [hmm]; split <;> omega
    obtain ⟨F, hF⟩ := Go.Deep.choose_lt (n := len) (p := fun i (y : α) => w.cells? 0 (a.add (i * size)) size = some (R y) ∧ (R y).length = size ∧ (∀ u ∈ R y, u.oneCell' = true) ∧ Q y) (fun i hi => by
      obtain ⟨cs', h1, h2⟩ := hx i (by omega)
      obtain ⟨y, rfl, h3, h4, h5⟩ := hR _ _ _ h2
      rw [hc] at h1
      exact ⟨y, h1, h3, h4, h5⟩)
    refine ⟨_, (List.range len).map F, rfl, rfl, ⟨?_, some a, cap, by simp, by simpa using hl, hm, ?_⟩, ?_⟩
    · intro r hr
      simp only [List.map_map, List.mem_map, List.mem_range, Function.comp] at hr
      obtain ⟨i, hi, rfl⟩ := hr
      exact ⟨(hF i hi).2.1, (hF i hi).2.2.1⟩
    · by_cases h0 : len = 0
      · left; simp [h0]
      · right
        obtain ⟨g1, g2, _, _⟩ := hF 0 (by omega)
        obtain ⟨_, _, g3⟩ := World.cells?_some g1
        have g4 := g3 0 hpos
        obtain ⟨u, hu⟩ : ∃ u, (R (F 0))[0]? = some u := ⟨(R (F 0))[0]'(by omega), by simp⟩
        rw [hu, Nat.zero_mul] at g4
        have hsp := World.cell?_spot g4
        have hlt := World.block_lt_of_cell? w _ g4
        obtain ⟨ab, ao, asp⟩ := a
        have hsp' : asp = none := by simpa [Addr.add] using hsp
        subst hsp'
        refine ⟨ab, ao, rfl, by simpa [Addr.add] using hlt, by simpa [Addr.add] using hlt, fun k r hk => ?_⟩
        rw [List.getElem?_map, List.getElem?_map] at hk
        rcases Nat.lt_or_ge k len with hkl | hkl
        · simp [hkl] at hk
          subst hk
          obtain ⟨f1, f2, _, _⟩ := hF k hkl
          obtain ⟨_, _, f3⟩ := World.cells?_some f1
          intro j v hj
          have := f3 j (by have := (List.getElem?_eq_some_iff.1 hj).1; omega)
          rw [hj] at this
          simp only [Addr.add_lit] at this
          exact this
        · simp [List.getElem?_eq_none (show (List.range len).length ≤ k by simpa using hkl)] at hk
    · intro y hy
      obtain ⟨i, hi, rfl⟩ := List.mem_map.1 hy
      exact (hF i (by simpa using hi)).2.2.2

variable {fuel : Nat} {cs : List Value} {x : DataW H × List MemPlace}

theorem cells_int : Try.prog.cellsOf 3 = 1 := by kernel_rfl
theorem open_irows (h : DataW.trod enc Try.prog w 0 sp held fuel 22 cs = some x) : ∃ v l, cs = [v] ∧ v.oneCell' = true ∧ Reads (· < w.heap.size) w v 1 (irows l) := by
  obtain ⟨v, l, h1, h2, h3, _⟩ := reads_open Try.underlying22 cells_int (by decide) (fun n : Int => [Value.int .i64 n]) (fun _ => True) (fun n cs x h => by
    obtain ⟨z, rfl, _, _⟩ := DataW.trod_int Try.underlying3 h
    exact ⟨z, rfl, rfl, by simp [Value.oneCell'], trivial⟩) h
  exact ⟨v, l, h1, h2, h3⟩

theorem open_slicev {t e : TypeId} {P : Program} (ht : P.underlying t = some (.slice e)) (h : DataW.trod enc P w 0 sp held fuel t cs = some x) : ∃ v, cs = [v] ∧ v.oneCell' = true := by
  rcases Go.Deep.open_slice ht h with ⟨rfl, _⟩ | ⟨a, len, cap, m, n, D, Pl, rfl, _⟩
  · exact ⟨_, rfl, rfl⟩
  · exact ⟨_, rfl, rfl⟩

instance : Inhabited Fr := ⟨⟨0, 0, 0, 0, .slice none 0 0⟩⟩
instance : Inhabited Cc := ⟨⟨0, 0, .slice none 0 0, .slice none 0 0, .slice none 0 0, .slice none 0 0, 0, 0, .slice none 0 0, .slice none 0 0, .slice none 0 0, .slice none 0 0, .slice none 0 0, .slice none 0 0⟩⟩

theorem cells_frame : Try.prog.cellsOf 43 = 5 := by kernel_rfl
theorem cells_vals : Try.prog.cellsOf 41 = 1 := by kernel_rfl
set_option maxRecDepth 100000 in
theorem open_frame (h : DataW.trod enc Try.prog w 0 sp held fuel 43 cs = some x) : ∃ f : Fr, cs = f.cells ∧ f.cells.length = 5 ∧ (∀ u ∈ f.cells, u.oneCell' = true) ∧ True := by
  obtain ⟨xs, n, _, _, hl, hx, hf⟩ := DataW.trod_struct Try.underlying43 h
  rw [cells_frame] at hl
  have hx' : xs.length = 5 := hx
  clear hx
  match cs, hl, xs, hx' with
  | [a0, a1, a2, a3, a4], _, [x0, x1, x2, x3, x4], _ =>
    have f0 : DataW.trod enc Try.prog w 0 sp held n 3 (([a0, a1, a2, a3, a4].drop 0).take (Try.prog.cellsOf 3)) = some x0 := hf 0 _ rfl
    have f1 : DataW.trod enc Try.prog w 0 sp held n 3 (([a0, a1, a2, a3, a4].drop 1).take (Try.prog.cellsOf 3)) = some x1 := hf 1 _ rfl
    have f2 : DataW.trod enc Try.prog w 0 sp held n 3 (([a0, a1, a2, a3, a4].drop 2).take (Try.prog.cellsOf 3)) = some x2 := hf 2 _ rfl
    have f3 : DataW.trod enc Try.prog w 0 sp held n 3 (([a0, a1, a2, a3, a4].drop 3).take (Try.prog.cellsOf 3)) = some x3 := hf 3 _ rfl
    have f4 : DataW.trod enc Try.prog w 0 sp held n 41 (([a0, a1, a2, a3, a4].drop 4).take (Try.prog.cellsOf 41)) = some x4 := hf 4 _ rfl
    simp only [cells_int, cells_vals, List.drop, List.take] at f0 f1 f2 f3 f4
    obtain ⟨z0, e0, _, _⟩ := DataW.trod_int Try.underlying3 f0
    obtain ⟨z1, e1, _, _⟩ := DataW.trod_int Try.underlying3 f1
    obtain ⟨z2, e2, _, _⟩ := DataW.trod_int Try.underlying3 f2
    obtain ⟨z3, e3, _, _⟩ := DataW.trod_int Try.underlying3 f3
    obtain ⟨v4, e4, h4⟩ := open_slicev Try.underlying41 f4
    simp at e0 e1 e2 e3 e4
    subst e0 e1 e2 e3 e4
    exact ⟨⟨z0, z1, z2, z3, a4⟩, rfl, rfl, by simp only [Fr.cells, List.mem_cons, List.not_mem_nil, or_false, forall_eq_or_imp, forall_eq]; exact ⟨rfl, rfl, rfl, rfl, h4⟩, trivial⟩

theorem cells_code : Try.prog.cellsOf 65 = 14 := by kernel_rfl
theorem cells_type : Try.prog.cellsOf 58 = 4 := by kernel_rfl
theorem cells_types : Try.prog.cellsOf 56 = 1 := by kernel_rfl
theorem cells_string : Try.prog.cellsOf 9 = 1 := by kernel_rfl
theorem cells_body : Try.prog.cellsOf 62 = 4 := by kernel_rfl
theorem cells_instrs : Try.prog.cellsOf 59 = 1 := by kernel_rfl
theorem cells_edits : Try.prog.cellsOf 60 = 1 := by kernel_rfl
theorem cells_deps : Try.prog.cellsOf 63 = 1 := by kernel_rfl
theorem cells_ints : Try.prog.cellsOf 22 = 1 := by kernel_rfl

set_option maxRecDepth 100000 in
theorem open_type (h : DataW.trod enc Try.prog w 0 sp held fuel 58 cs = some x) : ∃ a b c d, cs = [a, b, c, d] ∧ a.oneCell' = true ∧ b.oneCell' = true ∧ c.oneCell' = true ∧ d.oneCell' = true := by
  obtain ⟨xs, n, _, _, hl, hx, hf⟩ := DataW.trod_struct Try.underlying58 h
  rw [cells_type] at hl
  have hx' : xs.length = 4 := hx
  clear hx
  match cs, hl, xs, hx' with
  | [a0, a1, a2, a3], _, [x0, x1, x2, x3], _ =>
    have f0 : DataW.trod enc Try.prog w 0 sp held n 3 (([a0, a1, a2, a3].drop 0).take (Try.prog.cellsOf 3)) = some x0 := hf 0 _ rfl
    have f1 : DataW.trod enc Try.prog w 0 sp held n 9 (([a0, a1, a2, a3].drop 1).take (Try.prog.cellsOf 9)) = some x1 := hf 1 _ rfl
    have f2 : DataW.trod enc Try.prog w 0 sp held n 3 (([a0, a1, a2, a3].drop 2).take (Try.prog.cellsOf 3)) = some x2 := hf 2 _ rfl
    have f3 : DataW.trod enc Try.prog w 0 sp held n 56 (([a0, a1, a2, a3].drop 3).take (Try.prog.cellsOf 56)) = some x3 := hf 3 _ rfl
    simp only [cells_int, cells_types, cells_string, List.drop, List.take] at f0 f1 f2 f3
    obtain ⟨z0, e0, _, _⟩ := DataW.trod_int Try.underlying3 f0
    obtain ⟨z1, e1, _, _⟩ := DataW.trod_string Try.underlying9 f1
    obtain ⟨z2, e2, _, _⟩ := DataW.trod_int Try.underlying3 f2
    obtain ⟨v3, e3, h3⟩ := open_slicev Try.underlying56 f3
    simp at e0 e1 e2 e3
    subst e0 e1 e2 e3
    exact ⟨_, _, _, _, rfl, rfl, rfl, rfl, h3⟩
set_option maxRecDepth 100000 in
theorem open_body (h : DataW.trod enc Try.prog w 0 sp held fuel 62 cs = some x) : ∃ a b c d, cs = [a, b, c, d] ∧ a.oneCell' = true ∧ b.oneCell' = true ∧ c.oneCell' = true ∧ d.oneCell' = true := by
  obtain ⟨xs, n, _, _, hl, hx, hf⟩ := DataW.trod_struct Try.underlying62 h
  rw [cells_body] at hl
  have hx' : xs.length = 4 := hx
  clear hx
  match cs, hl, xs, hx' with
  | [a0, a1, a2, a3], _, [x0, x1, x2, x3], _ =>
    have f0 : DataW.trod enc Try.prog w 0 sp held n 3 (([a0, a1, a2, a3].drop 0).take (Try.prog.cellsOf 3)) = some x0 := hf 0 _ rfl
    have f1 : DataW.trod enc Try.prog w 0 sp held n 3 (([a0, a1, a2, a3].drop 1).take (Try.prog.cellsOf 3)) = some x1 := hf 1 _ rfl
    have f2 : DataW.trod enc Try.prog w 0 sp held n 59 (([a0, a1, a2, a3].drop 2).take (Try.prog.cellsOf 59)) = some x2 := hf 2 _ rfl
    have f3 : DataW.trod enc Try.prog w 0 sp held n 60 (([a0, a1, a2, a3].drop 3).take (Try.prog.cellsOf 60)) = some x3 := hf 3 _ rfl
    simp only [cells_int, cells_instrs, cells_edits, List.drop, List.take] at f0 f1 f2 f3
    obtain ⟨z0, e0, _, _⟩ := DataW.trod_int Try.underlying3 f0
    obtain ⟨z1, e1, _, _⟩ := DataW.trod_int Try.underlying3 f1
    obtain ⟨z2, e2, h2⟩ := open_slicev Try.underlying59 f2
    obtain ⟨v3, e3, h3⟩ := open_slicev Try.underlying60 f3
    simp at e0 e1 e2 e3
    subst e0 e1 e2 e3
    exact ⟨_, _, _, _, rfl, rfl, rfl, h2, h3⟩

set_option maxRecDepth 100000 in
theorem open_code (h : DataW.trod enc Try.prog w 0 sp held fuel 65 cs = some x) : ∃ c : Cc, cs = c.cells ∧ c.cells.length = 14 ∧ (∀ u ∈ c.cells, u.oneCell' = true) ∧ True := by
  obtain ⟨xs, n, _, _, hl, hx, hf⟩ := DataW.trod_struct Try.underlying65 h
  rw [cells_code] at hl
  have hx' : xs.length = 8 := hx
  clear hx
  match cs, hl, xs, hx' with
  | [a0, a1, a2, a3, a4, a5, a6, a7, a8, a9, a10, a11, a12, a13], _, [x0, x1, x2, x3, x4, x5, x6, x7], _ =>
    have f0 : DataW.trod enc Try.prog w 0 sp held n 3 (([a0, a1, a2, a3, a4, a5, a6, a7, a8, a9, a10, a11, a12, a13].drop 0).take (Try.prog.cellsOf 3)) = some x0 := hf 0 _ rfl
    have f1 : DataW.trod enc Try.prog w 0 sp held n 3 (([a0, a1, a2, a3, a4, a5, a6, a7, a8, a9, a10, a11, a12, a13].drop 1).take (Try.prog.cellsOf 3)) = some x1 := hf 1 _ rfl
    have f2 : DataW.trod enc Try.prog w 0 sp held n 58 (([a0, a1, a2, a3, a4, a5, a6, a7, a8, a9, a10, a11, a12, a13].drop 2).take (Try.prog.cellsOf 58)) = some x2 := hf 2 _ rfl
    have f3 : DataW.trod enc Try.prog w 0 sp held n 3 (([a0, a1, a2, a3, a4, a5, a6, a7, a8, a9, a10, a11, a12, a13].drop 6).take (Try.prog.cellsOf 3)) = some x3 := hf 3 _ rfl
    have f4 : DataW.trod enc Try.prog w 0 sp held n 3 (([a0, a1, a2, a3, a4, a5, a6, a7, a8, a9, a10, a11, a12, a13].drop 7).take (Try.prog.cellsOf 3)) = some x4 := hf 4 _ rfl
    have f5 : DataW.trod enc Try.prog w 0 sp held n 62 (([a0, a1, a2, a3, a4, a5, a6, a7, a8, a9, a10, a11, a12, a13].drop 8).take (Try.prog.cellsOf 62)) = some x5 := hf 5 _ rfl
    have f6 : DataW.trod enc Try.prog w 0 sp held n 63 (([a0, a1, a2, a3, a4, a5, a6, a7, a8, a9, a10, a11, a12, a13].drop 12).take (Try.prog.cellsOf 63)) = some x6 := hf 6 _ rfl
    have f7 : DataW.trod enc Try.prog w 0 sp held n 22 (([a0, a1, a2, a3, a4, a5, a6, a7, a8, a9, a10, a11, a12, a13].drop 13).take (Try.prog.cellsOf 22)) = some x7 := hf 7 _ rfl
    simp only [cells_int, cells_type, cells_body, cells_deps, cells_ints, List.drop, List.take] at f0 f1 f2 f3 f4 f5 f6 f7
    obtain ⟨z0, e0, _, _⟩ := DataW.trod_int Try.underlying3 f0
    obtain ⟨z1, e1, _, _⟩ := DataW.trod_int Try.underlying3 f1
    obtain ⟨b0, b1, b2, b3, e2, g0, g1, g2, g3⟩ := open_type f2
    obtain ⟨z3, e3, _, _⟩ := DataW.trod_int Try.underlying3 f3
    obtain ⟨z4, e4, _, _⟩ := DataW.trod_int Try.underlying3 f4
    obtain ⟨d0, d1, d2, d3, e5, k0, k1, k2, k3⟩ := open_body f5
    obtain ⟨v6, e6, h6⟩ := open_slicev Try.underlying63 f6
    obtain ⟨v7, e7, h7⟩ := open_slicev Try.underlying22 f7
    simp at e0 e1 e2 e3 e4 e5 e6 e7
    obtain ⟨rfl, rfl, rfl, rfl⟩ := e2
    obtain ⟨rfl, rfl, rfl, rfl⟩ := e5
    subst e0 e1 e3 e4 e6 e7
    exact ⟨⟨z0, z1, a2, a3, a4, a5, z3, z4, a8, a9, a10, a11, a12, a13⟩, rfl, rfl, by simp only [Cc.cells, List.mem_cons, List.not_mem_nil, or_false, forall_eq_or_imp, forall_eq]; exact ⟨rfl, rfl, g0, g1, g2, g3, rfl, rfl, k0, k1, k2, k3, h6, h7⟩, trivial⟩

theorem open_codes (h : DataW.trod enc Try.prog w 0 sp held fuel 24 cs = some x) : ∃ v l, cs = [v] ∧ v.oneCell' = true ∧ Reads (· < w.heap.size) w v 14 (crows l) := by
  obtain ⟨v, l, h1, h2, h3, _⟩ := reads_open Try.underlying24 cells_code (by decide) Cc.cells (fun _ => True) (fun n cs x h => open_code h) h
  exact ⟨v, l, h1, h2, h3⟩
theorem open_frames (h : DataW.trod enc Try.prog w 0 sp held fuel 25 cs = some x) : ∃ v l, cs = [v] ∧ v.oneCell' = true ∧ Reads (· < w.heap.size) w v 5 (frows l) := by
  obtain ⟨v, l, h1, h2, h3, _⟩ := reads_open Try.underlying25 cells_frame (by decide) Fr.cells (fun _ => True) (fun n cs x h => open_frame h) h
  exact ⟨v, l, h1, h2, h3⟩

theorem gather {Q : Value → List Fr → Prop} : ∀ us : List Value, (∀ u ∈ us, ∃ f, Q u f) → ∃ fs : List (List Fr), us.length = fs.length ∧ ∀ (k : Nat) (u : Value) (f : List Fr), us[k]? = some u → fs[k]? = some f → Q u f
  | [], _ => ⟨[], rfl, fun k u f hu => by simp at hu⟩
  | u :: us, h => by
    obtain ⟨f, hf⟩ := h u (by simp)
    obtain ⟨fs, h1, h2⟩ := gather us (fun u hu => h u (by simp [hu]))
    refine ⟨f :: fs, by simp [h1], fun k u' f' hu hf' => ?_⟩
    match k, hu, hf' with
    | 0, hu, hf' => simp at hu hf'; subst hu hf'; exact hf
    | k + 1, hu, hf' => simp at hu hf'; exact h2 k u' f' hu hf'

theorem cells_sframe : Try.prog.cellsOf 25 = 1 := by kernel_rfl
theorem open_stacks (h : DataW.trod enc Try.prog w 0 sp held fuel 23 cs = some x) : ∃ v fs, cs = [v] ∧ v.oneCell' = true ∧ Stk (· < w.heap.size) w v fs := by
  obtain ⟨v, us, h1, h2, h3, h4⟩ := reads_open (α := Value) Try.underlying23 cells_sframe (by decide) (fun u => [u]) (fun u => ∃ f, Reads (· < w.heap.size) w u 5 (frows f)) (fun n cs x h => by
    obtain ⟨v, l, rfl, h2, h3⟩ := open_frames h
    exact ⟨v, rfl, rfl, by simp [h2], l, h3⟩) h
  obtain ⟨fs, h5, h6⟩ := gather us h4
  exact ⟨v, fs, h1, h2, us, h5, h3, h6⟩
end
end Go.Proofs.Ytkldomkooleecaa
