/- Generated operations on a graph: facts, and the functions that make types. -/
import Derived.Test.YtkldomkooleecaaGreatDoorMCol
namespace Go.Proofs.YtkldomkooleecaaGreatDoor
open Go.RowKit

set_option maxRecDepth 100000 in
theorem namedT (s : ByteArray) (w : World) : Calls Tryz.prog 49 #[.string s, .slice none 0 0] w fun e w' => e = .returned (.agg #[.int .i64 2, .string s, .int .i64 0, .slice none 0 0]) ∧ Kept [] w w' := by
  go_enter Tryz.func49, Tryz.ntmps49
  go_wp2
  refine bodyPost_ret (results_blk rfl _ _ w.heap.size 39 [.int .i64 2, .string s, .int .i64 0, .slice none 0 0] _ rfl (Blk.new _ _ _) Tryz.underlying39 rfl (by kernel_rfl)) rfl ?_
  exact ⟨rfl, (Kept.refl _ _).alloc _⟩
set_option maxRecDepth 100000 in
theorem tupleT (L : Nat) (w : World) : Calls Tryz.prog 48 #[.slice (some ⟨L, 0, none⟩) 1 1] w fun e w' => e = .returned (.agg #[.int .i64 3, .string ⟨#[]⟩, .int .i64 0, .slice (some ⟨L, 0, none⟩) 1 1]) ∧ Kept [] w w' := by
  go_enter Tryz.func48, Tryz.ntmps48
  go_wp2
  refine bodyPost_ret (results_blk rfl _ _ w.heap.size 39 [.int .i64 3, .string ⟨#[]⟩, .int .i64 0, .slice (some ⟨L, 0, none⟩) 1 1] _ rfl (Blk.new _ _ _) Tryz.underlying39 rfl (by kernel_rfl)) rfl ?_
  exact ⟨rfl, (Kept.refl _ _).alloc _⟩

def named (s : ByteArray) : Ty := .mk 2 s 0 []
/-- A dependency on a function at one argument of a named type. -/
def dpN (f s : ByteArray) : Dp := ⟨f, .mk 3 ⟨#[]⟩ 0 [named s], 0, []⟩
theorem one_ty {w : World} {b : Nat} {t : TypeId} (s : ByteArray) (h : Blk w b [.int .i64 2, .string s, .int .i64 0, .slice none 0 0] t) : TR 1 (fun y => y = b) w (.slice (some ⟨b, 0, none⟩) 1 1) [named s] := by
  refine ⟨by simp, [.slice none 0 0], rfl, ⟨by simp [Ty.row, Value.oneCell'], _, _, rfl, by simp, by simp [maxLen], .inr ⟨b, 0, rfl, rfl, h.lt, fun k r hk j u hu => ?_⟩⟩, fun k x e hx he => ?_⟩
  · match k, hk with
    | 0, hk =>
      simp at hk
      subst hk
      rw [Nat.zero_mul, Nat.add_zero, Nat.zero_add]
      exact h.cell j u hu
    | k + 1, hk => simp at hk
  · match k, hx, he with
    | 0, hx, he =>
      simp at hx he
      subst hx he
      exact TR.nil 0 _ _
    | k + 1, hx, _ => simp at hx

set_option maxRecDepth 100000 in
set_option maxHeartbeats 1600000 in
theorem depT (f s : ByteArray) (w : World) : Calls Tryz.prog 25 #[.string f, .string s] w fun e w' =>
    ∃ L : Nat, e = .returned (.agg #[.string f, .int .i64 3, .string ⟨#[]⟩, .int .i64 0, .slice (some ⟨L, 0, none⟩) 1 1, .int .i64 0, .slice none 0 0]) ∧ TR 1 (w.heap.size ≤ ·) w' (.slice (some ⟨L, 0, none⟩) 1 1) [named s] ∧ Kept [] w w' := by
  go_enter Tryz.func25, Tryz.ntmps25
  go_wp2_with (first
    | (go_at_call 49; refine Calls.mono (namedT s _) ?_; rintro e w1 ⟨rfl, hk1⟩; have HK1 := Lib.hid hk1; have hb1 := (Blk.new w [.string ⟨#[]⟩, .int .i64 0, .string ⟨#[]⟩, .int .i64 0, .slice none 0 0, .int .i64 0, .slice none 0 0] 45).kept hk1 (by simp); have HB1 := Lib.hid hb1; clear hb1 hk1)
    | (go_at_call 48; refine Calls.mono (tupleT _ _) ?_; rintro e w2 ⟨rfl, hk2⟩; have HK2 := Lib.hid hk2; have hk12 := ((Kept.refl [] w1).alloc (.cells #[.int .i64 2, .string s, .int .i64 0, .slice none 0 0] 39)).trans hk2; have hb2 := HB1.out.kept hk12 (by simp); have HB2 := Lib.hid hb2; have ff := hb2.frozen; have cc := hb2.seven; clear hk2 hk12 hb2))
  clear ff cc
  refine bodyPost_ret (results_blk rfl _ _ w.heap.size 45 [.string f, .int .i64 3, .string ⟨#[]⟩, .int .i64 0, .slice (some ⟨w1.heap.size, 0, none⟩) 1 1, .int .i64 0, .slice none 0 0] _ rfl (((((((HB2.out.set 0 (.string f)).set 1 (.int .i64 3)).set 2 (.string ⟨#[]⟩)).set 3 (.int .i64 0)).set 4 (.slice (some ⟨w1.heap.size, 0, none⟩) 1 1)).set 5 (.int .i64 0)).set 6 (.slice none 0 0)) Tryz.underlying45 rfl (by kernel_rfl)) rfl ?_
  have hs1 := HK1.out.size
  simp only [World.size_alloc] at hs1
  have hkF : Kept [w.heap.size] w2 (((((((w2.setCell ⟨w.heap.size, 0, none⟩ (.string f)).setCell ⟨w.heap.size, 1, none⟩ (.int .i64 3)).setCell ⟨w.heap.size, 2, none⟩ (.string ⟨#[]⟩)).setCell ⟨w.heap.size, 3, none⟩ (.int .i64 0)).setCell ⟨w.heap.size, 4, none⟩ (.slice (some ⟨w1.heap.size, 0, none⟩) 1 1)).setCell ⟨w.heap.size, 5, none⟩ (.int .i64 0)).setCell ⟨w.heap.size, 6, none⟩ (.slice none 0 0)) :=
    (((((((Kept.refl _ w2).setCell (by simp) _).setCell (by simp) _).setCell (by simp) _).setCell (by simp) _).setCell (by simp) _).setCell (by simp) _).setCell (by simp) _
  have ht := (TR.good 1).kept ((TR.good 1).kept (one_ty s (Blk.new w1 [.int .i64 2, .string s, .int .i64 0, .slice none 0 0] 39)) HK2.out (by simp)) hkF (by simp; omega)
  have hkA : Kept [] w w2 := (((Kept.refl [] w).alloc _).trans HK1.out).trans (((Kept.refl [] w1).alloc _).trans HK2.out)
  exact ⟨w1.heap.size, rfl, (TR.good 1).mono ht (fun y _ hy => by omega), hkA.trans' hkF (by simp)⟩

/-- An operation of the law: op, number, dependencies, uses. -/
structure Op32 where
  op : Int
  n : Int
  deps : List Dp
  uses : List Int
def Op32.row (x : Op32) (e : Value) : List Value := [.int .i64 x.op, .int .i64 x.n, vfst e, vsnd e]
def AR (d : Nat) (S : Nat → Prop) (w : World) (e : Value) (x : Op32) : Prop := ∃ a b, e = .tuple #[a, b] ∧ DL d S w a x.deps ∧ Reads S w b 1 (irows x.uses)
theorem AR.good (d : Nat) : Good (fun S w e (x : Op32) => AR d S w e x) :=
  ⟨fun ⟨a, b, e, h1, h2⟩ k hn => ⟨a, b, e, (DL.good d).kept h1 k hn, h2.kept k hn⟩, fun ⟨a, b, e, h1, h2⟩ hs => ⟨a, b, e, (DL.good d).mono h1 hs, h2.mono hs⟩⟩
theorem info_act : ∃ i z, Tryz.prog.info? 35 = some i ∧ i.zero = some z ∧ i.size = 4 ∧ i.bytes = 64 ∧ z.cells.size = 4 := by
  have h : (Tryz.prog.info? 35).map (fun i => (i.zero, i.size, i.bytes)) = some (some (.agg #[.int .i64 0, .int .i64 0, .slice none 0 0, .slice none 0 0]), 4, 64) := by kernel_rfl
  cases hi : Tryz.prog.info? 35 with
  | none => simp [hi] at h
  | some i => simp [hi] at h; exact ⟨i, _, rfl, h.1, h.2.1, h.2.2, rfl⟩
theorem info_act2 : (Tryz.prog.info? 35).map (fun i => (i.zero, i.size)) = some (some (.agg #[.int .i64 0, .int .i64 0, .slice none 0 0, .slice none 0 0]), 4) := by kernel_rfl
def fns : List ByteArray := [⟨#[102]⟩, ⟨#[103]⟩, ⟨#[104]⟩]
def tns : List ByteArray := [⟨#[73, 110, 116]⟩, ⟨#[66, 111, 111, 108]⟩, ⟨#[68, 111, 103]⟩]
/-- The nine dependencies that are drawn. -/
def nine : List Dp := fns.flatMap fun f => tns.map fun s => dpN f s
theorem nine_len : nine.length = 9 := rfl
def GenA (x : Op32) : Prop := (∀ y ∈ x.deps, y ∈ nine) ∧ x.deps.length ≤ 2 ∧ x.uses.length ≤ 3 ∧ (∀ u ∈ x.uses, 1 ≤ u ∧ u ≤ 100)
theorem fns_get {k : Nat} (hk : k < 3) : ∃ t, fns[k]? = some t ∧ t ∈ fns := ⟨fns[k]'(by simpa [fns] using hk), by simp, List.getElem_mem _⟩
theorem tns_get {k : Nat} (hk : k < 3) : ∃ t, tns[k]? = some t ∧ t ∈ tns := ⟨tns[k]'(by simpa [tns] using hk), by simp, List.getElem_mem _⟩
theorem nine_mem {f s : ByteArray} (hf : f ∈ fns) (hs : s ∈ tns) : dpN f s ∈ nine := List.mem_flatMap.2 ⟨f, hf, List.mem_map.2 ⟨s, hs, rfl⟩⟩
theorem nine_fit : ∀ y ∈ nine, Fit nine y := by
  intro y hy
  obtain ⟨f, hf, hy2⟩ := List.mem_flatMap.1 hy
  obtain ⟨s, hs, rfl⟩ := List.mem_map.1 hy2
  refine ⟨by simp [dpN, named, tyOk, tysOk], ?_, ⟨_, hy, rfl, rfl⟩⟩
  have : s.size ≤ 4 := by
    simp [tns] at hs
    rcases hs with rfl | rfl | rfl <;> decide
  simp only [dpN, named, tyW, tysW]
  have h0 : (⟨#[]⟩ : ByteArray).size = 0 := rfl
  omega
end Go.Proofs.YtkldomkooleecaaGreatDoor
