/- What is handed to a law, opened: slices of integers. -/
import Derived.Test.YtkldomkooleecaaGreatDoorBase
import Derived.Deep.Slices
import Derived.Test.YtkldomkooleecaaGreatDoorGen32
import Derived.Test.YtkldomkooleecaaGreatDoorTyKey
import Derived.Test.YtkldomkooleecaaGreatDoorRows

namespace Go.Proofs.YtkldomkooleecaaGreatDoor
open Go.RowKit

section
variable {H : Type} {enc : TypeId × Value → H} {w : World} {sp : Nat → Bool} {held : Bool}

theorem reads_open {P : Program} {α : Type} [Inhabited α] {t e : TypeId} {size fuel : Nat} {cs : List Value} {x : DataW H × List MemPlace} (ht : P.underlying t = some (.slice e)) (hc : P.cellsOf e = size) (hpos : 0 < size)
    (R : α → List Value) (Q : α → Prop) (hR : ∀ n cs x, DataW.trod enc P w 0 sp held n e cs = some x → ∃ a, cs = R a ∧ (R a).length = size ∧ (∀ u ∈ R a, u.oneCell' = true) ∧ Q a)
    (h : DataW.trod enc P w 0 sp held fuel t cs = some x) : ∃ (v : Value) (l : List α), cs = [v] ∧ v.oneCell' = true ∧ Reads (· < w.heap.size) w v size (l.map R) ∧ ∀ a ∈ l, Q a := by
  rcases Go.Deep.open_slice ht h with ⟨rfl, _⟩ | ⟨a, len, cap, m, n, D, Pl, rfl, _, hl, hm, hmm, _, hx⟩
  · exact ⟨_, [], rfl, rfl, Reads.nil _ _ _, by simp⟩
  · have hlm : len ≤ m := by rw [hmm]; split <;> omega
    obtain ⟨F, hF⟩ := Go.Deep.choose_lt (n := len) (p := fun i (y : α) => w.cells? 0 (a.add (i * size)) size = some (R y) ∧ (R y).length = size ∧ (∀ u ∈ R y, u.oneCell' = true) ∧ Q y) (fun i hi => by
      obtain ⟨cs', h1, h2⟩ := hx i (by omega)
      obtain ⟨y, rfl, h3, h4, h5⟩ := hR _ _ _ h2
      rw [hc] at h1
      exact ⟨y, h1, h3, h4, h5⟩)
    refine ⟨_, (List.range len).map F, rfl, rfl, ⟨?_, some a, cap, by simp, by simpa using hl, hm, ?_⟩, ?_⟩
    · intro r hr
      simp only [List.map_map, List.mem_map, List.mem_range, Function.comp] at hr
      obtain ⟨i, hi, rfl⟩ := hr
      exact ⟨(hF i hi).2.1, (hF i hi).2.2.1⟩
    · by_cases h0 : len = 0
      · left; simp [h0]
      · right
        obtain ⟨g1, g2, _, _⟩ := hF 0 (by omega)
        obtain ⟨_, _, g3⟩ := World.cells?_some g1
        have g4 := g3 0 hpos
        obtain ⟨u, hu⟩ : ∃ u, (R (F 0))[0]? = some u := ⟨(R (F 0))[0]'(by omega), by simp⟩
        rw [hu, Nat.zero_mul] at g4
        have hsp := World.cell?_spot g4
        have hlt := World.block_lt_of_cell? w _ g4
        obtain ⟨ab, ao, asp⟩ := a
        have hsp' : asp = none := by simpa [Addr.add] using hsp
        subst hsp'
        refine ⟨ab, ao, rfl, by simpa [Addr.add] using hlt, by simpa [Addr.add] using hlt, fun k r hk => ?_⟩
        rw [List.getElem?_map, List.getElem?_map] at hk
        rcases Nat.lt_or_ge k len with hkl | hkl
        · simp [hkl] at hk
          subst hk
          obtain ⟨f1, f2, _, _⟩ := hF k hkl
          obtain ⟨_, _, f3⟩ := World.cells?_some f1
          intro j v hj
          have := f3 j (by have := (List.getElem?_eq_some_iff.1 hj).1; omega)
          rw [hj] at this
          simp only [Addr.add_lit] at this
          exact this
        · simp [List.getElem?_eq_none (show (List.range len).length ≤ k by simpa using hkl)] at hk
    · intro y hy
      obtain ⟨i, hi, rfl⟩ := List.mem_map.1 hy
      exact (hF i (by simpa using hi)).2.2.2

variable {fuel : Nat} {cs : List Value} {x : DataW H × List MemPlace}

theorem cells_int : Tryz.prog.cellsOf 3 = 1 := by kernel_rfl
theorem open_irows (h : DataW.trod enc Tryz.prog w 0 sp held fuel 22 cs = some x) : ∃ v l, cs = [v] ∧ v.oneCell' = true ∧ Reads (· < w.heap.size) w v 1 (irows l) := by
  obtain ⟨v, l, h1, h2, h3, _⟩ := reads_open Tryz.underlying22 cells_int (by decide) (fun n : Int => [Value.int .i64 n]) (fun _ => True) (fun n cs x h => by
    obtain ⟨z, rfl, _, _⟩ := DataW.trod_int Tryz.underlying3 h
    exact ⟨z, rfl, rfl, by simp [Value.oneCell'], trivial⟩) h
  exact ⟨v, l, h1, h2, h3⟩

end
end Go.Proofs.YtkldomkooleecaaGreatDoor

/- What is handed to the law GraphOperations, opened: operations with dependencies on type terms of any depth. -/
namespace Go.Proofs.YtkldomkooleecaaGreatDoor
open Go.RowKit

/-- Slices of type terms of any length, down to a depth. -/
def TU : Nat → (Nat → Prop) → World → Value → List Ty → Prop
  | 0, S, w, v, l => l = [] ∧ Reads S w v 4 []
  | d + 1, S, w, v, l => Rd (fun S w e (x : Ty) => TU d S w e x.args) Ty.row 4 S w v l
theorem TU.good : ∀ d, Good (fun S w v (l : List Ty) => TU d S w v l)
  | 0 => ⟨fun h k hn => ⟨h.1, h.2.kept k hn⟩, fun h hs => ⟨h.1, h.2.mono hs⟩⟩
  | d + 1 => ⟨fun h k hn => Rd.kept ⟨fun h k hn => (TU.good d).kept h k hn, fun h hs => (TU.good d).mono h hs⟩ h k hn, fun h hs => Rd.mono ⟨fun h k hn => (TU.good d).kept h k hn, fun h hs => (TU.good d).mono h hs⟩ h hs⟩
theorem TU.form {d : Nat} {S : Nat → Prop} {w : World} {v : Value} {l : List Ty} (h : TU d S w v l) : ∃ a cap, v = .slice a l.length cap ∧ l.length ≤ cap ∧ cap ≤ 9223372036854775807 := by
  cases d with
  | zero =>
    obtain ⟨rfl, h0, a, cap, rfl, h2, h3, h4⟩ := h
    exact ⟨a, cap, rfl, h2, by simpa [maxLen] using h3⟩
  | succ d =>
    obtain ⟨a, cap, rfl, h3, h4, _⟩ := Rd.form (Q := fun S w e (x : Ty) => TU d S w e x.args) h
    exact ⟨a, cap, rfl, h3, h4⟩

mutual
/-- How many nodes a type term has. -/
def nodes : Ty → Nat
  | .mk _ _ _ l => 1 + nodesL l
def nodesL : List Ty → Nat
  | [] => 0
  | a :: l => nodes a + nodesL l
end
theorem nodes_pos : ∀ x : Ty, 1 ≤ nodes x
  | .mk _ _ _ l => by rw [nodes]; omega
theorem nodesL_len : ∀ l : List Ty, l.length ≤ nodesL l
  | [] => by simp
  | a :: l => by have := nodesL_len l; have := nodes_pos a; rw [nodesL, List.length_cons]; omega
theorem nodesL_get : ∀ {l : List Ty} {k : Nat} {x : Ty}, l[k]? = some x → nodes x ≤ nodesL l
  | [], k, x, h => by simp at h
  | a :: l, 0, x, h => by simp at h; subst h; rw [nodesL]; omega
  | a :: l, k + 1, x, h => by have := nodesL_get (l := l) (k := k) (x := x) (by simpa using h); rw [nodesL]; omega
theorem nodes_args (x : Ty) : nodes x = 1 + nodesL x.args := by cases x; rw [nodes]; rfl
theorem TU.tr : ∀ {d : Nat} {S : Nat → Prop} {w : World} {v : Value} {l : List Ty}, TU d S w v l → nodesL l ≤ 1000 → TR d S w v l
  | 0, S, w, v, l, h, _ => h
  | d + 1, S, w, v, l, h, hn => by
    obtain ⟨es, h1, h2, h3⟩ := h
    refine ⟨by have := nodesL_len l; omega, es, h1, h2, fun k x e hx he => TU.tr (h3 k x e hx he) ?_⟩
    have := nodesL_get hx
    rw [nodes_args] at this
    omega
mutual
/-- Every name is of at most so many letters. -/
def tyNm (B : Nat) : Ty → Prop
  | .mk _ n _ l => n.size ≤ B ∧ tysNm B l
def tysNm (B : Nat) : List Ty → Prop
  | [] => True
  | a :: l => tyNm B a ∧ tysNm B l
end
mutual
theorem tyW_le (B : Nat) : ∀ x : Ty, tyNm B x → tyW x ≤ nodes x * (80 + 10 * B)
  | .mk _ n _ l, h => by
    rw [tyNm] at h
    have := tysW_le B l h.2
    rw [tyW, nodes, Nat.add_mul, Nat.one_mul]
    omega
theorem tysW_le (B : Nat) : ∀ l : List Ty, tysNm B l → tysW l ≤ nodesL l * (80 + 10 * B)
  | [], _ => by simp [tysW]
  | a :: l, h => by
    rw [tysNm] at h
    have := tyW_le B a h.1
    have := tysW_le B l h.2
    rw [tysW, nodesL, Nat.add_mul]
    omega
end
theorem tysNm_map {B : Nat} : ∀ l : List (Ty × Value), (∀ p ∈ l, tyNm B p.1) → tysNm B (l.map (·.1))
  | [], _ => by simp [tysNm]
  | a :: l, h => by
    rw [List.map_cons, tysNm]
    exact ⟨h a (by simp), tysNm_map l (fun p hp => h p (by simp [hp]))⟩
theorem bulk_part {H : Type} {d : DataW H} {l : List (DataW H)} (h : d ∈ l) : Rows.uptoBulk d ≤ Rows.uptoBulkAll l := by
  induction l with
  | nil => cases h
  | cons x r ih =>
    simp only [Rows.uptoBulkAll]
    cases List.mem_cons.1 h with
    | inl e => subst e; omega
    | inr e => have := ih e; omega
theorem TR.up : ∀ {d : Nat} {S : Nat → Prop} {w : World} {v : Value} {l : List Ty}, TR d S w v l → TR (d + 1) S w v l
  | 0, S, w, v, l, h => by
    obtain ⟨rfl, h⟩ := h
    exact ⟨by simp, [], rfl, h, fun k x e hx => by simp at hx⟩
  | d + 1, S, w, v, l, h => by
    obtain ⟨hl, es, h1, h2, h3⟩ := h
    exact ⟨hl, es, h1, h2, fun k x e hx he => TR.up (h3 k x e hx he)⟩
theorem TR.ups {d : Nat} (n : Nat) {S : Nat → Prop} {w : World} {v : Value} {l : List Ty} (h : TR d S w v l) : TR (d + n) S w v l := by
  induction n with
  | zero => exact h
  | succ n ih => exact ih.up

section
variable {H : Type} {enc : TypeId × Value → H} {w : World} {sp : Nat → Bool} {held : Bool}

theorem reads_openN {P : Program} {α : Type} [Inhabited α] {t e : TypeId} {size fuel : Nat} {cs : List Value} {x : DataW H × List MemPlace} (ht : P.underlying t = some (.slice e)) (hc : P.cellsOf e = size) (hpos : 0 < size)
    (R : α → List Value) (Q : α → Prop) (hR : ∀ n cs y, n < fuel → Rows.uptoBulk y.1 ≤ Rows.uptoBulk x.1 → DataW.trod enc P w 0 sp held n e cs = some y → ∃ a, cs = R a ∧ (R a).length = size ∧ (∀ u ∈ R a, u.oneCell' = true) ∧ Q a)
    (h : DataW.trod enc P w 0 sp held fuel t cs = some x) : ∃ (v : Value) (l : List α), cs = [v] ∧ v.oneCell' = true ∧ Reads (· < w.heap.size) w v size (l.map R) ∧ ∀ a ∈ l, Q a := by
  rcases DataW.trod_slice ht h with ⟨rfl, _⟩ | ⟨a, len, cap, elems, rest, n, hfu, rfl, hxe, _, hl, hm, hlen, hel, _⟩
  · exact ⟨_, [], rfl, rfl, Reads.nil _ _ _, by simp⟩
  · obtain ⟨F, hF⟩ := Go.Deep.choose_lt (n := len) (p := fun i (y : α) => w.cells? 0 (a.add (i * size)) size = some (R y) ∧ (R y).length = size ∧ (∀ u ∈ R y, u.oneCell' = true) ∧ Q y) (fun i hi => by
      have h1 := hel i hi
      rw [List.getElem?_eq_getElem (by omega)] at h1
      obtain ⟨cs', h2, h3⟩ := Option.bind_eq_some_iff.1 h1
      obtain ⟨y, rfl, h4, h5, h6⟩ := hR n _ _ (by omega) (by
        have hme : elems[i] ∈ elems := List.getElem_mem _
        have := bulk_part (List.mem_map_of_mem (f := (·.1)) hme)
        rw [hxe]
        simp only [Rows.uptoBulk]
        omega) h3
      rw [hc] at h2
      exact ⟨y, h2, h4, h5, h6⟩)
    refine ⟨_, (List.range len).map F, rfl, rfl, ⟨?_, some a, cap, by simp, by simpa using hl, hm, ?_⟩, ?_⟩
    · intro r hr
      simp only [List.map_map, List.mem_map, List.mem_range, Function.comp] at hr
      obtain ⟨i, hi, rfl⟩ := hr
      exact ⟨(hF i hi).2.1, (hF i hi).2.2.1⟩
    · by_cases h0 : len = 0
      · left; simp [h0]
      · right
        obtain ⟨g1, g2, _, _⟩ := hF 0 (by omega)
        obtain ⟨_, _, g3⟩ := World.cells?_some g1
        have g4 := g3 0 hpos
        obtain ⟨u, hu⟩ : ∃ u, (R (F 0))[0]? = some u := ⟨(R (F 0))[0]'(by omega), by simp⟩
        rw [hu, Nat.zero_mul] at g4
        have hsp := World.cell?_spot g4
        have hlt := World.block_lt_of_cell? w _ g4
        obtain ⟨ab, ao, asp⟩ := a
        have hsp' : asp = none := by simpa [Addr.add] using hsp
        subst hsp'
        refine ⟨ab, ao, rfl, by simpa [Addr.add] using hlt, by simpa [Addr.add] using hlt, fun k r hk => ?_⟩
        rw [List.getElem?_map, List.getElem?_map] at hk
        rcases Nat.lt_or_ge k len with hkl | hkl
        · simp [hkl] at hk
          subst hk
          obtain ⟨f1, f2, _, _⟩ := hF k hkl
          obtain ⟨_, _, f3⟩ := World.cells?_some f1
          intro j v hj
          have := f3 j (by have := (List.getElem?_eq_some_iff.1 hj).1; omega)
          rw [hj] at this
          simp only [Addr.add_lit] at this
          exact this
        · simp [List.getElem?_eq_none (show (List.range len).length ≤ k by simpa using hkl)] at hk
    · intro y hy
      obtain ⟨i, hi, rfl⟩ := List.mem_map.1 hy
      exact (hF i (by simpa using hi)).2.2.2

/-- Rows that lead on. -/
theorem rd_of {β : Type} {Q : (Nat → Prop) → World → Value → β → Prop} {r : β → Value → List Value} {size : Nat} {S : Nat → Prop} {v : Value} (l : List (β × Value)) (h : Reads S w v size (l.map fun p => r p.1 p.2)) (hq : ∀ p ∈ l, Q S w p.2 p.1) : Rd Q r size S w v (l.map (·.1)) := by
  refine ⟨l.map (·.2), by simp, ?_, fun k x e hx he => ?_⟩
  · rw [List.zipWith_map_left, List.zipWith_map_right]
    have : (List.zipWith (fun a b => r a.1 b.2) l l : List (List Value)) = l.map fun p => r p.1 p.2 := by
      clear h hq
      induction l with
      | nil => rfl
      | cons a l ih => simp
    rw [this]
    exact h
  · rw [List.getElem?_map] at hx he
    obtain ⟨p, hp, rfl⟩ := Option.map_eq_some_iff.1 hx
    rw [hp] at he
    simp only [Option.map_some, Option.some.injEq] at he
    subst he
    exact hq p (List.mem_of_getElem? hp)

theorem cells_type : Tryz.prog.cellsOf 39 = 4 := by kernel_rfl
theorem cells_types : Tryz.prog.cellsOf 37 = 1 := by kernel_rfl
theorem cells_string : Tryz.prog.cellsOf 9 = 1 := by kernel_rfl
theorem cells_act : Tryz.prog.cellsOf 35 = 4 := by kernel_rfl
theorem cells_dep : Tryz.prog.cellsOf 45 = 7 := by kernel_rfl
theorem cells_deps : Tryz.prog.cellsOf 33 = 1 := by kernel_rfl
theorem cells_ints : Tryz.prog.cellsOf 22 = 1 := by kernel_rfl
theorem cells_query : Tryz.prog.cellsOf 41 = 5 := by kernel_rfl
theorem cells_res : Tryz.prog.cellsOf 43 = 2 := by kernel_rfl
instance : Inhabited (Ty × Value) := ⟨(.mk 0 ⟨#[]⟩ 0 [], .slice none 0 0)⟩
instance : Inhabited (Dp × Value) := ⟨(⟨⟨#[]⟩, .mk 0 ⟨#[]⟩ 0 [], 0, []⟩, .slice none 0 0)⟩
instance : Inhabited (Op32 × Value) := ⟨(⟨0, 0, [], []⟩, .slice none 0 0)⟩
/-- Rows of dependencies on types down to a depth, of any length. -/
def DU (d : Nat) (S : Nat → Prop) (w : World) (e : Value) (x : Dp) : Prop := ∃ a b, e = .tuple #[a, b] ∧ TU d S w a x.ty.args ∧ Reads S w b 1 (irows x.ids)
theorem DU.good (d : Nat) : Good (fun S w e (x : Dp) => DU d S w e x) :=
  ⟨fun ⟨a, b, e, h1, h2⟩ k hn => ⟨a, b, e, (TU.good d).kept h1 k hn, h2.kept k hn⟩, fun ⟨a, b, e, h1, h2⟩ hs => ⟨a, b, e, (TU.good d).mono h1 hs, h2.mono hs⟩⟩
def DUs (d : Nat) (S : Nat → Prop) (w : World) (v : Value) (l : List Dp) : Prop := Rd (fun S w e (x : Dp) => DU d S w e x) Dp.row 7 S w v l
theorem DUs.good (d : Nat) : Good (fun S w v (l : List Dp) => DUs d S w v l) := ⟨fun h k hn => Rd.kept (DU.good d) h k hn, fun h hs => Rd.mono (DU.good d) h hs⟩
/-- Rows of operations. -/
def AU (d : Nat) (S : Nat → Prop) (w : World) (e : Value) (x : Op32) : Prop := ∃ a b, e = .tuple #[a, b] ∧ DUs d S w a x.deps ∧ Reads S w b 1 (irows x.uses)
theorem AU.good (d : Nat) : Good (fun S w e (x : Op32) => AU d S w e x) :=
  ⟨fun ⟨a, b, e, h1, h2⟩ k hn => ⟨a, b, e, (DUs.good d).kept h1 k hn, h2.kept k hn⟩, fun ⟨a, b, e, h1, h2⟩ hs => ⟨a, b, e, (DUs.good d).mono h1 hs, h2.mono hs⟩⟩
theorem Rd.imp {β : Type} {Q Q' : (Nat → Prop) → World → Value → β → Prop} {r : β → Value → List Value} {size : Nat} {S : Nat → Prop} {w : World} {v : Value} {l : List β} (h : Rd Q r size S w v l) (hi : ∀ x ∈ l, ∀ e, Q S w e x → Q' S w e x) : Rd Q' r size S w v l := by
  obtain ⟨es, h1, h2, h3⟩ := h
  exact ⟨es, h1, h2, fun k x e hx he => hi x (List.mem_of_getElem? hx) e (h3 k x e hx he)⟩
theorem TU.ups {d : Nat} (k : Nat) {S : Nat → Prop} {w : World} {v : Value} {l : List Ty} (h : TU d S w v l) : TU (d + k) S w v l := by
  have one : ∀ (n : Nat) {S : Nat → Prop} {v : Value} {l : List Ty}, TU n S w v l → TU (n + 1) S w v l := by
    intro n
    induction n with
    | zero =>
      intro S v l h
      obtain ⟨rfl, h⟩ := h
      exact ⟨[], rfl, h, fun k x e hx => by simp at hx⟩
    | succ n ih =>
      intro S v l h
      obtain ⟨es, h1, h2, h3⟩ := h
      exact ⟨es, h1, h2, fun k x e hx he => ih (h3 k x e hx he)⟩
  induction k with
  | zero => exact h
  | succ k ih => exact one _ ih
theorem DU.ups {d : Nat} (k : Nat) {S : Nat → Prop} {w : World} {e : Value} {x : Dp} (h : DU d S w e x) : DU (d + k) S w e x := by
  obtain ⟨a, b, he, h1, h2⟩ := h
  exact ⟨a, b, he, h1.ups k, h2⟩
theorem AU.ups {d : Nat} (k : Nat) {S : Nat → Prop} {w : World} {e : Value} {x : Op32} (h : AU d S w e x) : AU (d + k) S w e x := by
  obtain ⟨a, b, he, h1, h2⟩ := h
  exact ⟨a, b, he, Rd.imp h1 fun _ _ _ q => q.ups k, h2⟩
/-- What is asked of a dependency handed in. -/
def DOk (B : Nat) (x : Dp) : Prop := tyOk x.ty ∧ tyNm B x.ty
theorem wf_i64 {n : Int} (h : (Lit.int .i64 n).wf = true) : -9223372036854775808 ≤ n ∧ n ≤ 9223372036854775807 := by
  simp [Lit.wf, IntKind.min, IntKind.max, IntKind.signed, IntKind.bits] at h
  omega

theorem tysOk_map : ∀ l : List (Ty × Value), (∀ p ∈ l, tyOk p.1) → tysOk (l.map (·.1))
  | [], _ => by simp [tysOk]
  | a :: l, h => by
    rw [List.map_cons, tysOk]
    exact ⟨h a (by simp), tysOk_map l (fun p hp => h p (by simp [hp]))⟩

set_option maxRecDepth 100000 in
theorem open_type (F : Nat) {B : Nat} (IH : ∀ (fuel : Nat) (cs : List Value) (x : DataW H × List MemPlace), fuel ≤ F → Rows.uptoBulk x.1 ≤ B → DataW.trod enc Tryz.prog w 0 sp held fuel 37 cs = some x → ∃ v l, cs = [v] ∧ v.oneCell' = true ∧ TU F (· < w.heap.size) w v l ∧ tysOk l ∧ tysNm B l)
    {fuel : Nat} {cs : List Value} {x : DataW H × List MemPlace} (hf : fuel ≤ F) (hB : Rows.uptoBulk x.1 ≤ B) (h : DataW.trod enc Tryz.prog w 0 sp held fuel 39 cs = some x) :
    ∃ p : Ty × Value, cs = p.1.row p.2 ∧ (p.1.row p.2).length = 4 ∧ (∀ u ∈ p.1.row p.2, u.oneCell' = true) ∧ TU F (· < w.heap.size) w p.2 p.1.args ∧ tyOk p.1 ∧ tyNm B p.1 := by
  obtain ⟨xs, n, hn, hxe, hl, hx, hf'⟩ := DataW.trod_struct Tryz.underlying39 h
  rw [cells_type] at hl
  have hx' : xs.length = 4 := hx
  clear hx
  match cs, hl, xs, hx' with
  | [a0, a1, a2, a3], _, [x0, x1, x2, x3], _ =>
    have f0 : DataW.trod enc Tryz.prog w 0 sp held n 3 (([a0, a1, a2, a3].drop 0).take (Tryz.prog.cellsOf 3)) = some x0 := hf' 0 _ rfl
    have f1 : DataW.trod enc Tryz.prog w 0 sp held n 9 (([a0, a1, a2, a3].drop 1).take (Tryz.prog.cellsOf 9)) = some x1 := hf' 1 _ rfl
    have f2 : DataW.trod enc Tryz.prog w 0 sp held n 3 (([a0, a1, a2, a3].drop 2).take (Tryz.prog.cellsOf 3)) = some x2 := hf' 2 _ rfl
    have f3 : DataW.trod enc Tryz.prog w 0 sp held n 37 (([a0, a1, a2, a3].drop 3).take (Tryz.prog.cellsOf 37)) = some x3 := hf' 3 _ rfl
    simp only [cells_int, cells_types, cells_string, List.drop, List.take] at f0 f1 f2 f3
    obtain ⟨z0, e0, _, r0⟩ := DataW.trod_int Tryz.underlying3 f0
    obtain ⟨z1, e1, q1, _⟩ := DataW.trod_string Tryz.underlying9 f1
    obtain ⟨z2, e2, _, r2⟩ := DataW.trod_int Tryz.underlying3 f2
    rw [hxe] at hB
    have b1 : z1.size ≤ B := by
      rw [q1] at hB
      simp only [List.map_cons, List.map_nil, Rows.uptoBulk, Rows.uptoBulkAll, Array.length_toList] at hB
      have : z1.data.size = z1.size := rfl
      omega
    have b3 : Rows.uptoBulk x3.1 ≤ B := by
      simp only [List.map_cons, List.map_nil, Rows.uptoBulk, Rows.uptoBulkAll] at hB
      omega
    obtain ⟨v3, l3, e3, h3, q3, k3, m3⟩ := IH _ _ _ (by omega) b3 f3
    simp at e0 e1 e2 e3
    subst e0 e1 e2 e3
    exact ⟨(.mk z0 z1 z2 l3, a3), rfl, rfl, by simp only [Ty.row, Ty.kind, Ty.name, Ty.index, List.mem_cons, List.not_mem_nil, or_false, forall_eq_or_imp, forall_eq]; exact ⟨rfl, rfl, rfl, h3⟩, q3, by rw [tyOk]; exact ⟨wf_i64 r0, wf_i64 r2, k3⟩, by rw [tyNm]; exact ⟨b1, m3⟩⟩

theorem open_types {B : Nat} : ∀ (F fuel : Nat) (cs : List Value) (x : DataW H × List MemPlace), fuel ≤ F → Rows.uptoBulk x.1 ≤ B → DataW.trod enc Tryz.prog w 0 sp held fuel 37 cs = some x → ∃ v l, cs = [v] ∧ v.oneCell' = true ∧ TU F (· < w.heap.size) w v l ∧ tysOk l ∧ tysNm B l
  | 0, fuel, cs, x, hf, _, h => by
    obtain rfl : fuel = 0 := by omega
    simp [DataW.trod] at h
  | F + 1, fuel, cs, x, hf, hB, h => by
    obtain ⟨v, l, rfl, h2, h3, h4⟩ := reads_openN (α := Ty × Value) Tryz.underlying37 cells_type (by decide) (fun p => p.1.row p.2) (fun p => TU F (· < w.heap.size) w p.2 p.1.args ∧ tyOk p.1 ∧ tyNm B p.1) (fun n cs y hn hy h => open_type F (open_types F) (by omega) (by omega) h) h
    exact ⟨v, l.map (·.1), rfl, h2, (show TU (F + 1) (· < w.heap.size) w v (l.map (·.1)) from rd_of (Q := fun S w e (x : Ty) => TU F S w e x.args) l h3 (fun p hp => (h4 p hp).1)), tysOk_map l (fun p hp => (h4 p hp).2.1), tysNm_map l (fun p hp => (h4 p hp).2.2)⟩

set_option maxRecDepth 100000 in
theorem open_query {B fuel : Nat} {cs : List Value} {x : DataW H × List MemPlace} (hB : Rows.uptoBulk x.1 ≤ B) (h : DataW.trod enc Tryz.prog w 0 sp held fuel 41 cs = some x) :
    ∃ (f : ByteArray) (y : Ty) (v : Value), cs = .string f :: y.row v ∧ v.oneCell' = true ∧ TU fuel (· < w.heap.size) w v y.args ∧ tyOk y ∧ tyNm B y := by
  obtain ⟨xs, n, hn, hxe, hl, hx, hf'⟩ := DataW.trod_struct Tryz.underlying41 h
  rw [cells_query] at hl
  have hx' : xs.length = 2 := hx
  clear hx
  match cs, hl, xs, hx' with
  | [a0, a1, a2, a3, a4], _, [x0, x1], _ =>
    have f0 : DataW.trod enc Tryz.prog w 0 sp held n 9 (([a0, a1, a2, a3, a4].drop 0).take (Tryz.prog.cellsOf 9)) = some x0 := hf' 0 _ rfl
    have f1 : DataW.trod enc Tryz.prog w 0 sp held n 39 (([a0, a1, a2, a3, a4].drop 1).take (Tryz.prog.cellsOf 39)) = some x1 := hf' 1 _ rfl
    simp only [cells_string, cells_type, List.drop, List.take] at f0 f1
    obtain ⟨z0, e0, _, _⟩ := DataW.trod_string Tryz.underlying9 f0
    rw [hxe] at hB
    have b1 : Rows.uptoBulk x1.1 ≤ B := by
      simp only [List.map_cons, List.map_nil, Rows.uptoBulk, Rows.uptoBulkAll] at hB
      omega
    obtain ⟨⟨y, v⟩, e6, _, o6, q6, k6, m6⟩ := open_type fuel (open_types fuel) (by omega) b1 f1
    simp at e0
    subst e0
    simp only at e6 q6 k6 m6 o6
    exact ⟨z0, y, v, by rw [e6], o6 v (by simp [Ty.row]), q6, k6, m6⟩

set_option maxRecDepth 100000 in
theorem open_res {fuel : Nat} {cs : List Value} {x : DataW H × List MemPlace} (h : DataW.trod enc Tryz.prog w 0 sp held fuel 43 cs = some x) :
    ∃ (k : Int) (v : Value) (l : List Int), cs = [.int .i64 k, v] ∧ v.oneCell' = true ∧ Reads (· < w.heap.size) w v 1 (irows l) := by
  obtain ⟨xs, n, hn, hxe, hl, hx, hf'⟩ := DataW.trod_struct Tryz.underlying43 h
  rw [cells_res] at hl
  have hx' : xs.length = 2 := hx
  clear hx
  match cs, hl, xs, hx' with
  | [a0, a1], _, [x0, x1], _ =>
    have f0 : DataW.trod enc Tryz.prog w 0 sp held n 3 (([a0, a1].drop 0).take (Tryz.prog.cellsOf 3)) = some x0 := hf' 0 _ rfl
    have f1 : DataW.trod enc Tryz.prog w 0 sp held n 22 (([a0, a1].drop 1).take (Tryz.prog.cellsOf 22)) = some x1 := hf' 1 _ rfl
    simp only [cells_int, cells_ints, List.drop, List.take] at f0 f1
    obtain ⟨z0, e0, _, _⟩ := DataW.trod_int Tryz.underlying3 f0
    obtain ⟨v, l, e1, h1, h2⟩ := open_irows f1
    simp at e0 e1
    subst e0 e1
    exact ⟨z0, _, l, rfl, h1, h2⟩

set_option maxRecDepth 100000 in
theorem open_dep {B fuel : Nat} {cs : List Value} {x : DataW H × List MemPlace} (hB : Rows.uptoBulk x.1 ≤ B) (h : DataW.trod enc Tryz.prog w 0 sp held fuel 45 cs = some x) :
    ∃ p : Dp × Value, cs = p.1.row p.2 ∧ (p.1.row p.2).length = 7 ∧ (∀ u ∈ p.1.row p.2, u.oneCell' = true) ∧ DU fuel (· < w.heap.size) w p.2 p.1 ∧ DOk B p.1 := by
  obtain ⟨xs, n, hn, hxe, hl, hx, hf'⟩ := DataW.trod_struct Tryz.underlying45 h
  rw [cells_dep] at hl
  have hx' : xs.length = 2 := hx
  clear hx
  match cs, hl, xs, hx' with
  | [a0, a1, a2, a3, a4, a5, a6], _, [x0, x1], _ =>
    have f0 : DataW.trod enc Tryz.prog w 0 sp held n 41 (([a0, a1, a2, a3, a4, a5, a6].drop 0).take (Tryz.prog.cellsOf 41)) = some x0 := hf' 0 _ rfl
    have f1 : DataW.trod enc Tryz.prog w 0 sp held n 43 (([a0, a1, a2, a3, a4, a5, a6].drop 5).take (Tryz.prog.cellsOf 43)) = some x1 := hf' 1 _ rfl
    simp only [cells_query, cells_res, List.drop, List.take] at f0 f1
    rw [hxe] at hB
    have b0 : Rows.uptoBulk x0.1 ≤ B := by
      simp only [List.map_cons, List.map_nil, Rows.uptoBulk, Rows.uptoBulkAll] at hB
      omega
    obtain ⟨z0, y, v, e0, o0, q0, k0, m0⟩ := open_query b0 f0
    obtain ⟨z1, v1, l1, e1, o1, q1⟩ := open_res f1
    simp only [Ty.row, List.cons.injEq, and_true] at e0 e1
    obtain ⟨rfl, rfl, rfl, rfl, rfl⟩ := e0
    obtain ⟨rfl, rfl⟩ := e1
    have hup := q0.ups (fuel - n)
    rw [show n + (fuel - n) = fuel by omega] at hup
    refine ⟨(⟨z0, y, z1, l1⟩, .tuple #[a4, a6]), rfl, rfl, ?_, ⟨a4, a6, rfl, hup, q1⟩, k0, m0⟩
    simp only [Dp.row, vfst_pair, vsnd_pair, List.mem_cons, List.not_mem_nil, or_false, forall_eq_or_imp, forall_eq]
    exact ⟨rfl, rfl, rfl, rfl, o0, rfl, o1⟩

theorem open_deps {B fuel : Nat} {cs : List Value} {x : DataW H × List MemPlace} (hB : Rows.uptoBulk x.1 ≤ B) (h : DataW.trod enc Tryz.prog w 0 sp held fuel 33 cs = some x) :
    ∃ v l, cs = [v] ∧ v.oneCell' = true ∧ DUs fuel (· < w.heap.size) w v l ∧ ∀ x ∈ l, DOk B x := by
  obtain ⟨v, l, rfl, h2, h3, h4⟩ := reads_openN (α := Dp × Value) Tryz.underlying33 cells_dep (by decide) (fun p => p.1.row p.2) (fun p => ∃ n, DU n (· < w.heap.size) w p.2 p.1 ∧ n ≤ fuel ∧ DOk B p.1) (fun n cs y hn hy h => by
    obtain ⟨p, h1, h2, h3, h4, h5⟩ := open_dep (B := B) (by omega) h
    exact ⟨p, h1, h2, h3, n, h4, by omega, h5⟩) h
  refine ⟨v, l.map (·.1), rfl, h2, (show DUs fuel (· < w.heap.size) w v (l.map (·.1)) from rd_of (Q := fun S w e (x : Dp) => DU fuel S w e x) l h3 (fun p hp => ?_)), fun x hx => ?_⟩
  · obtain ⟨n, q1, q2, _⟩ := h4 p hp
    have := q1.ups (fuel - n)
    rw [show n + (fuel - n) = fuel by omega] at this
    exact this
  · obtain ⟨p, hp, rfl⟩ := List.mem_map.1 hx
    obtain ⟨n, _, _, q⟩ := h4 p hp
    exact q

set_option maxRecDepth 100000 in
theorem open_act {B fuel : Nat} {cs : List Value} {x : DataW H × List MemPlace} (hB : Rows.uptoBulk x.1 ≤ B) (h : DataW.trod enc Tryz.prog w 0 sp held fuel 35 cs = some x) :
    ∃ p : Op32 × Value, cs = p.1.row p.2 ∧ (p.1.row p.2).length = 4 ∧ (∀ u ∈ p.1.row p.2, u.oneCell' = true) ∧ AU fuel (· < w.heap.size) w p.2 p.1 ∧ ∀ y ∈ p.1.deps, DOk B y := by
  obtain ⟨xs, n, hn, hxe, hl, hx, hf'⟩ := DataW.trod_struct Tryz.underlying35 h
  rw [cells_act] at hl
  have hx' : xs.length = 4 := hx
  clear hx
  match cs, hl, xs, hx' with
  | [a0, a1, a2, a3], _, [x0, x1, x2, x3], _ =>
    have f0 : DataW.trod enc Tryz.prog w 0 sp held n 3 (([a0, a1, a2, a3].drop 0).take (Tryz.prog.cellsOf 3)) = some x0 := hf' 0 _ rfl
    have f1 : DataW.trod enc Tryz.prog w 0 sp held n 3 (([a0, a1, a2, a3].drop 1).take (Tryz.prog.cellsOf 3)) = some x1 := hf' 1 _ rfl
    have f2 : DataW.trod enc Tryz.prog w 0 sp held n 33 (([a0, a1, a2, a3].drop 2).take (Tryz.prog.cellsOf 33)) = some x2 := hf' 2 _ rfl
    have f3 : DataW.trod enc Tryz.prog w 0 sp held n 22 (([a0, a1, a2, a3].drop 3).take (Tryz.prog.cellsOf 22)) = some x3 := hf' 3 _ rfl
    simp only [cells_int, cells_deps, cells_ints, List.drop, List.take] at f0 f1 f2 f3
    obtain ⟨z0, e0, _, _⟩ := DataW.trod_int Tryz.underlying3 f0
    obtain ⟨z1, e1, _, _⟩ := DataW.trod_int Tryz.underlying3 f1
    rw [hxe] at hB
    have b2 : Rows.uptoBulk x2.1 ≤ B := by
      simp only [List.map_cons, List.map_nil, Rows.uptoBulk, Rows.uptoBulkAll] at hB
      omega
    obtain ⟨v2, l2, e2, o2, q2, k2⟩ := open_deps b2 f2
    obtain ⟨v3, l3, e3, o3, q3⟩ := open_irows f3
    simp at e0 e1 e2 e3
    subst e0 e1 e2 e3
    have hup : DUs fuel (· < w.heap.size) w a2 l2 := Rd.imp q2 fun x _ e q => by
      have := DU.ups (fuel - n) q
      rwa [show n + (fuel - n) = fuel by omega] at this
    refine ⟨(⟨z0, z1, l2, l3⟩, .tuple #[a2, a3]), rfl, rfl, ?_, ⟨a2, a3, rfl, hup, q3⟩, k2⟩
    simp only [Op32.row, vfst_pair, vsnd_pair, List.mem_cons, List.not_mem_nil, or_false, forall_eq_or_imp, forall_eq]
    exact ⟨rfl, rfl, o2, o3⟩

theorem open_acts {B fuel : Nat} {cs : List Value} {x : DataW H × List MemPlace} (hB : Rows.uptoBulk x.1 ≤ B) (h : DataW.trod enc Tryz.prog w 0 sp held fuel 32 cs = some x) :
    ∃ v l, cs = [v] ∧ v.oneCell' = true ∧ ∃ F, Rd (fun S w e (x : Op32) => AU F S w e x) Op32.row 4 (· < w.heap.size) w v l ∧ ∀ x ∈ l, ∀ y ∈ x.deps, DOk B y := by
  obtain ⟨v, l, rfl, h2, h3, h4⟩ := reads_openN (α := Op32 × Value) Tryz.underlying32 cells_act (by decide) (fun p => p.1.row p.2) (fun p => ∃ n, AU n (· < w.heap.size) w p.2 p.1 ∧ n ≤ fuel ∧ ∀ y ∈ p.1.deps, DOk B y) (fun n cs y hn hy h => by
    obtain ⟨p, h1, h2, h3, h4, h5⟩ := open_act (B := B) (by omega) h
    exact ⟨p, h1, h2, h3, n, h4, by omega, h5⟩) h
  refine ⟨v, l.map (·.1), rfl, h2, fuel, rd_of (Q := fun S w e (x : Op32) => AU fuel S w e x) l h3 (fun p hp => ?_), fun x hx => ?_⟩
  · obtain ⟨n, q1, q2, _⟩ := h4 p hp
    have := q1.ups (fuel - n)
    rw [show n + (fuel - n) = fuel by omega] at this
    exact this
  · obtain ⟨p, hp, rfl⟩ := List.mem_map.1 hx
    obtain ⟨n, _, _, q⟩ := h4 p hp
    exact q
end
end Go.Proofs.YtkldomkooleecaaGreatDoor
