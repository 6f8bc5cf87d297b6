/- Frames and compiled codes as data: the cells that they take, and stacks of frames in memory. -/
import Derived.Test.YtkldomkooleecaaWalkC
namespace Go.Proofs.Ytkldomkooleecaa
open Go.RowKit

/-- A frame. -/
structure Fr where
  code : Int
  method : Int
  world : Int
  pc : Int
  slots : Value

def Fr.cells (f : Fr) : List Value := [.int .i64 f.code, .int .i64 f.method, .int .i64 f.world, .int .i64 f.pc, f.slots]
def frows (l : List Fr) : List (List Value) := l.map Fr.cells
@[simp] theorem frows_length (l : List Fr) : (frows l).length = l.length := by simp [frows]

/-- Slices of frames. -/
def Stk (S : Nat → Prop) (w : World) (v : Value) (fs : List (List Fr)) : Prop :=
  ∃ us : List Value, us.length = fs.length ∧ Reads S w v 1 (us.map fun u => [u]) ∧ ∀ (k : Nat) (u : Value) (f : List Fr), us[k]? = some u → fs[k]? = some f → Reads S w u 5 (frows f)

theorem Stk.kept {S : Nat → Prop} {w w' : World} {v : Value} {fs : List (List Fr)} {M : List Nat} (h : Stk S w v fs) (k : Kept M w w') (hn : ∀ x ∈ M, ¬ S x) : Stk S w' v fs := by
  obtain ⟨us, h1, h2, h3⟩ := h
  exact ⟨us, h1, h2.kept k hn, fun i u f hu hf => (h3 i u f hu hf).kept k hn⟩
theorem Stk.mono {S S' : Nat → Prop} {w : World} {v : Value} {fs : List (List Fr)} (h : Stk S w v fs) (hs : ∀ b, b < w.heap.size → S b → S' b) : Stk S' w v fs := by
  obtain ⟨us, h1, h2, h3⟩ := h
  exact ⟨us, h1, h2.mono hs, fun i u f hu hf => (h3 i u f hu hf).mono hs⟩

/-- What a slice of slices is good for in a walk. -/
theorem Stk.form {S : Nat → Prop} {w : World} {v : Value} {fs : List (List Fr)} (h : Stk S w v fs) : ∃ a cap, v = .slice a fs.length cap ∧ fs.length ≤ cap ∧ cap ≤ 9223372036854775807 ∧
    (fs = [] ∨ ∃ b off, a = some ⟨b, off, none⟩ ∧ S b ∧ b < w.heap.size ∧ ∀ k f, fs[k]? = some f → ∃ u, w.cell? ⟨b, off + k, none⟩ = some u ∧ Reads S w u 5 (frows f)) := by
  obtain ⟨us, h1, ⟨h0, a, cap, rfl, h2, h3, h4⟩, h5⟩ := h
  simp only [List.length_map, h1] at h2 ⊢
  refine ⟨a, cap, rfl, h2, by simpa [maxLen] using h3, ?_⟩
  rcases h4 with h4 | ⟨b, off, rfl, hs, hb, hr⟩
  · left
    have : us = [] := by simpa using h4
    subst this
    exact List.eq_nil_of_length_eq_zero (by simpa using h1.symm)
  · refine .inr ⟨b, off, rfl, hs, hb, fun k f hf => ?_⟩
    obtain ⟨u, hu⟩ : ∃ u, us[k]? = some u := ⟨us[k]'(by rw [h1]; exact (List.getElem?_eq_some_iff.1 hf).1), by simp⟩
    refine ⟨u, ?_, h5 k u f hu hf⟩
    have := hr k [u] (by simp [hu]) 0 u rfl
    simpa using this

/-- .. a slice of frames. -/
theorem frames_form {S : Nat → Prop} {w : World} {v : Value} {f : List Fr} (h : Reads S w v 5 (frows f)) : ∃ a cap, v = .slice a f.length cap ∧ f.length ≤ cap ∧ cap ≤ 9223372036854775807 ∧
    (f = [] ∨ ∃ b off, a = some ⟨b, off, none⟩ ∧ S b ∧ b < w.heap.size ∧ ∀ k x, f[k]? = some x → w.rangeAt b (off + k * 5) x.cells ∧ x.slots.oneCell' = true) := by
  obtain ⟨h0, a, cap, rfl, h2, h3, h4⟩ := h
  rw [frows_length] at h2 ⊢
  refine ⟨a, cap, rfl, h2, by simpa [maxLen] using h3, ?_⟩
  rcases h4 with h4 | ⟨b, off, rfl, hs, hb, hr⟩
  · left; simpa [frows] using h4
  · refine .inr ⟨b, off, rfl, hs, hb, fun k x hx => ?_⟩
    have hx' : (frows f)[k]? = some x.cells := by simp [frows, hx]
    refine ⟨hr k _ hx', ?_⟩
    exact (h0 _ (List.mem_of_getElem? hx')).2 x.slots (by simp [Fr.cells])

def worldsOf (l : List Fr) : List Int := l.map Fr.world
theorem worldsOf_length (l : List Fr) : (worldsOf l).length = l.length := by unfold worldsOf; exact List.length_map _
/-- The codes that frames run. -/
def codesOf (l : List Fr) : List Int := (l.map Fr.code).filter fun c => decide (0 < c)

theorem codesOf_length (l : List Fr) : (codesOf l).length ≤ l.length := by
  unfold codesOf
  exact Nat.le_trans (List.length_filter_le _ _) (by simp)
theorem codesOf_append (l m : List Fr) : codesOf (l ++ m) = codesOf l ++ codesOf m := by simp [codesOf]
theorem worldsOf_append (l m : List Fr) : worldsOf (l ++ m) = worldsOf l ++ worldsOf m := by simp [worldsOf]
theorem take_flatten_snoc {α : Type} {fs : List (List α)} {i : Nat} {f : List α} (h : fs[i]? = some f) : (fs.take (i + 1)).flatten = (fs.take i).flatten ++ f := by
  rw [List.take_add_one, h]; simp
theorem foldl_snoc {α β : Type} (g : β → α → β) (s : β) (l : List α) (x : α) : (l ++ [x]).foldl g s = g (l.foldl g s) x := by simp
end Go.Proofs.Ytkldomkooleecaa
