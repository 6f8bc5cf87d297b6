/- What is handed to the law CacheOperations, opened: operations with type terms of any depth. -/
import Derived.Test.YtkldomkooleecaaDoorOpenI
import Derived.Test.YtkldomkooleecaaDoorGen31
import Derived.Test.YtkldomkooleecaaDoorTyKey
import Derived.Test.YtkldomkooleecaaDoorRows
namespace Go.Proofs.YtkldomkooleecaaDoor
open Go.RowKit

/-- Slices of type terms of any length, down to a depth. -/
def TU : Nat → (Nat → Prop) → World → Value → List Ty → Prop
  | 0, S, w, v, l => l = [] ∧ Reads S w v 4 []
  | d + 1, S, w, v, l => Rd (fun S w e (x : Ty) => TU d S w e x.args) Ty.row 4 S w v l
theorem TU.good : ∀ d, Good (fun S w v (l : List Ty) => TU d S w v l)
  | 0 => ⟨fun h k hn => ⟨h.1, h.2.kept k hn⟩, fun h hs => ⟨h.1, h.2.mono hs⟩⟩
  | d + 1 => ⟨fun h k hn => Rd.kept ⟨fun h k hn => (TU.good d).kept h k hn, fun h hs => (TU.good d).mono h hs⟩ h k hn, fun h hs => Rd.mono ⟨fun h k hn => (TU.good d).kept h k hn, fun h hs => (TU.good d).mono h hs⟩ h hs⟩
theorem TU.form {d : Nat} {S : Nat → Prop} {w : World} {v : Value} {l : List Ty} (h : TU d S w v l) : ∃ a cap, v = .slice a l.length cap ∧ l.length ≤ cap ∧ cap ≤ 9223372036854775807 := by
  cases d with
  | zero =>
    obtain ⟨rfl, h0, a, cap, rfl, h2, h3, h4⟩ := h
    exact ⟨a, cap, rfl, h2, by simpa [maxLen] using h3⟩
  | succ d =>
    obtain ⟨a, cap, rfl, h3, h4, _⟩ := Rd.form (Q := fun S w e (x : Ty) => TU d S w e x.args) h
    exact ⟨a, cap, rfl, h3, h4⟩

mutual
/-- How many nodes a type term has. -/
def nodes : Ty → Nat
  | .mk _ _ _ l => 1 + nodesL l
def nodesL : List Ty → Nat
  | [] => 0
  | a :: l => nodes a + nodesL l
end
theorem nodes_pos : ∀ x : Ty, 1 ≤ nodes x
  | .mk _ _ _ l => by rw [nodes]; omega
theorem nodesL_len : ∀ l : List Ty, l.length ≤ nodesL l
  | [] => by simp
  | a :: l => by have := nodesL_len l; have := nodes_pos a; rw [nodesL, List.length_cons]; omega
theorem nodesL_get : ∀ {l : List Ty} {k : Nat} {x : Ty}, l[k]? = some x → nodes x ≤ nodesL l
  | [], k, x, h => by simp at h
  | a :: l, 0, x, h => by simp at h; subst h; rw [nodesL]; omega
  | a :: l, k + 1, x, h => by have := nodesL_get (l := l) (k := k) (x := x) (by simpa using h); rw [nodesL]; omega
theorem nodes_args (x : Ty) : nodes x = 1 + nodesL x.args := by cases x; rw [nodes]; rfl
theorem TU.tr : ∀ {d : Nat} {S : Nat → Prop} {w : World} {v : Value} {l : List Ty}, TU d S w v l → nodesL l ≤ 1000 → TR d S w v l
  | 0, S, w, v, l, h, _ => h
  | d + 1, S, w, v, l, h, hn => by
    obtain ⟨es, h1, h2, h3⟩ := h
    refine ⟨by have := nodesL_len l; omega, es, h1, h2, fun k x e hx he => TU.tr (h3 k x e hx he) ?_⟩
    have := nodesL_get hx
    rw [nodes_args] at this
    omega
mutual
/-- Every name is of at most so many letters. -/
def tyNm (B : Nat) : Ty → Prop
  | .mk _ n _ l => n.size ≤ B ∧ tysNm B l
def tysNm (B : Nat) : List Ty → Prop
  | [] => True
  | a :: l => tyNm B a ∧ tysNm B l
end
mutual
theorem tyW_le (B : Nat) : ∀ x : Ty, tyNm B x → tyW x ≤ nodes x * (80 + 10 * B)
  | .mk _ n _ l, h => by
    rw [tyNm] at h
    have := tysW_le B l h.2
    rw [tyW, nodes, Nat.add_mul, Nat.one_mul]
    omega
theorem tysW_le (B : Nat) : ∀ l : List Ty, tysNm B l → tysW l ≤ nodesL l * (80 + 10 * B)
  | [], _ => by simp [tysW]
  | a :: l, h => by
    rw [tysNm] at h
    have := tyW_le B a h.1
    have := tysW_le B l h.2
    rw [tysW, nodesL, Nat.add_mul]
    omega
end
theorem tysNm_map {B : Nat} : ∀ l : List (Ty × Value), (∀ p ∈ l, tyNm B p.1) → tysNm B (l.map (·.1))
  | [], _ => by simp [tysNm]
  | a :: l, h => by
    rw [List.map_cons, tysNm]
    exact ⟨h a (by simp), tysNm_map l (fun p hp => h p (by simp [hp]))⟩
theorem bulk_part {H : Type} {d : DataW H} {l : List (DataW H)} (h : d ∈ l) : Rows.uptoBulk d ≤ Rows.uptoBulkAll l := by
  induction l with
  | nil => cases h
  | cons x r ih =>
    simp only [Rows.uptoBulkAll]
    cases List.mem_cons.1 h with
    | inl e => subst e; omega
    | inr e => have := ih e; omega
theorem TR.up : ∀ {d : Nat} {S : Nat → Prop} {w : World} {v : Value} {l : List Ty}, TR d S w v l → TR (d + 1) S w v l
  | 0, S, w, v, l, h => by
    obtain ⟨rfl, h⟩ := h
    exact ⟨by simp, [], rfl, h, fun k x e hx => by simp at hx⟩
  | d + 1, S, w, v, l, h => by
    obtain ⟨hl, es, h1, h2, h3⟩ := h
    exact ⟨hl, es, h1, h2, fun k x e hx he => TR.up (h3 k x e hx he)⟩
theorem TR.ups {d : Nat} (n : Nat) {S : Nat → Prop} {w : World} {v : Value} {l : List Ty} (h : TR d S w v l) : TR (d + n) S w v l := by
  induction n with
  | zero => exact h
  | succ n ih => exact ih.up

section
variable {H : Type} {enc : TypeId × Value → H} {w : World} {sp : Nat → Bool} {held : Bool}

theorem reads_openN {P : Program} {α : Type} [Inhabited α] {t e : TypeId} {size fuel : Nat} {cs : List Value} {x : DataW H × List MemPlace} (ht : P.underlying t = some (.slice e)) (hc : P.cellsOf e = size) (hpos : 0 < size)
    (R : α → List Value) (Q : α → Prop) (hR : ∀ n cs y, n < fuel → Rows.uptoBulk y.1 ≤ Rows.uptoBulk x.1 → DataW.trod enc P w 0 sp held n e cs = some y → ∃ a, cs = R a ∧ (R a).length = size ∧ (∀ u ∈ R a, u.oneCell' = true) ∧ Q a)
    (h : DataW.trod enc P w 0 sp held fuel t cs = some x) : ∃ (v : Value) (l : List α), cs = [v] ∧ v.oneCell' = true ∧ Reads (· < w.heap.size) w v size (l.map R) ∧ ∀ a ∈ l, Q a := by
  rcases DataW.trod_slice ht h with ⟨rfl, _⟩ | ⟨a, len, cap, elems, rest, n, hfu, rfl, hxe, _, hl, hm, hlen, hel, _⟩
  · exact ⟨_, [], rfl, rfl, Reads.nil _ _ _, by simp⟩
  · obtain ⟨F, hF⟩ := Go.Deep.choose_lt (n := len) (p := fun i (y : α) => w.cells? 0 (a.add (i * size)) size = some (R y) ∧ (R y).length = size ∧ (∀ u ∈ R y, u.oneCell' = true) ∧ Q y) (fun i hi => by
      have h1 := hel i hi
      rw [List.getElem?_eq_getElem (by omega)] at h1
      obtain ⟨cs', h2, h3⟩ := Option.bind_eq_some_iff.1 h1
      obtain ⟨y, rfl, h4, h5, h6⟩ := hR n _ _ (by omega) (by
        have hme : elems[i] ∈ elems := List.getElem_mem _
        have := bulk_part (List.mem_map_of_mem (f := (·.1)) hme)
        rw [hxe]
        simp only [Rows.uptoBulk]
        omega) h3
      rw [hc] at h2
      exact ⟨y, h2, h4, h5, h6⟩)
    refine ⟨_, (List.range len).map F, rfl, rfl, ⟨?_, some a, cap, by simp, by simpa using hl, hm, ?_⟩, ?_⟩
    · intro r hr
      simp only [List.map_map, List.mem_map, List.mem_range, Function.comp] at hr
      obtain ⟨i, hi, rfl⟩ := hr
      exact ⟨(hF i hi).2.1, (hF i hi).2.2.1⟩
    · by_cases h0 : len = 0
      · left; simp [h0]
      · right
        obtain ⟨g1, g2, _, _⟩ := hF 0 (by omega)
        obtain ⟨_, _, g3⟩ := World.cells?_some g1
        have g4 := g3 0 hpos
        obtain ⟨u, hu⟩ : ∃ u, (R (F 0))[0]? = some u := ⟨(R (F 0))[0]'(by omega), by simp⟩
        rw [hu, Nat.zero_mul] at g4
        have hsp := World.cell?_spot g4
        have hlt := World.block_lt_of_cell? w _ g4
        obtain ⟨ab, ao, asp⟩ := a
        have hsp' : asp = none := by simpa [Addr.add] using hsp
        subst hsp'
        refine ⟨ab, ao, rfl, by simpa [Addr.add] using hlt, by simpa [Addr.add] using hlt, fun k r hk => ?_⟩
        rw [List.getElem?_map, List.getElem?_map] at hk
        rcases Nat.lt_or_ge k len with hkl | hkl
        · simp [hkl] at hk
          subst hk
          obtain ⟨f1, f2, _, _⟩ := hF k hkl
          obtain ⟨_, _, f3⟩ := World.cells?_some f1
          intro j v hj
          have := f3 j (by have := (List.getElem?_eq_some_iff.1 hj).1; omega)
          rw [hj] at this
          simp only [Addr.add_lit] at this
          exact this
        · simp [List.getElem?_eq_none (show (List.range len).length ≤ k by simpa using hkl)] at hk
    · intro y hy
      obtain ⟨i, hi, rfl⟩ := List.mem_map.1 hy
      exact (hF i (by simpa using hi)).2.2.2

/-- Rows that lead on. -/
theorem rd_of {β : Type} {Q : (Nat → Prop) → World → Value → β → Prop} {r : β → Value → List Value} {size : Nat} {S : Nat → Prop} {v : Value} (l : List (β × Value)) (h : Reads S w v size (l.map fun p => r p.1 p.2)) (hq : ∀ p ∈ l, Q S w p.2 p.1) : Rd Q r size S w v (l.map (·.1)) := by
  refine ⟨l.map (·.2), by simp, ?_, fun k x e hx he => ?_⟩
  · rw [List.zipWith_map_left, List.zipWith_map_right]
    have : (List.zipWith (fun a b => r a.1 b.2) l l : List (List Value)) = l.map fun p => r p.1 p.2 := by
      clear h hq
      induction l with
      | nil => rfl
      | cons a l ih => simp
    rw [this]
    exact h
  · rw [List.getElem?_map] at hx he
    obtain ⟨p, hp, rfl⟩ := Option.map_eq_some_iff.1 hx
    rw [hp] at he
    simp only [Option.map_some, Option.some.injEq] at he
    subst he
    exact hq p (List.mem_of_getElem? hp)

theorem cells_type : Tryd.prog.cellsOf 31 = 4 := by kernel_rfl
theorem cells_types : Tryd.prog.cellsOf 29 = 1 := by kernel_rfl
theorem cells_string : Tryd.prog.cellsOf 9 = 1 := by kernel_rfl
theorem cells_act : Tryd.prog.cellsOf 33 = 10 := by kernel_rfl
instance : Inhabited (Ty × Value) := ⟨(.mk 0 ⟨#[]⟩ 0 [], .slice none 0 0)⟩
instance : Inhabited (Op31 × Value) := ⟨(⟨0, 0, 0, 0, 0, 0, .mk 0 ⟨#[]⟩ 0 []⟩, .slice none 0 0)⟩
theorem wf_i64 {n : Int} (h : (Lit.int .i64 n).wf = true) : -9223372036854775808 ≤ n ∧ n ≤ 9223372036854775807 := by
  simp [Lit.wf, IntKind.min, IntKind.max, IntKind.signed, IntKind.bits] at h
  omega

theorem tysOk_map : ∀ l : List (Ty × Value), (∀ p ∈ l, tyOk p.1) → tysOk (l.map (·.1))
  | [], _ => by simp [tysOk]
  | a :: l, h => by
    rw [List.map_cons, tysOk]
    exact ⟨h a (by simp), tysOk_map l (fun p hp => h p (by simp [hp]))⟩

set_option maxRecDepth 100000 in
theorem open_type (F : Nat) {B : Nat} (IH : ∀ (fuel : Nat) (cs : List Value) (x : DataW H × List MemPlace), fuel ≤ F → Rows.uptoBulk x.1 ≤ B → DataW.trod enc Tryd.prog w 0 sp held fuel 29 cs = some x → ∃ v l, cs = [v] ∧ v.oneCell' = true ∧ TU F (· < w.heap.size) w v l ∧ tysOk l ∧ tysNm B l)
    {fuel : Nat} {cs : List Value} {x : DataW H × List MemPlace} (hf : fuel ≤ F) (hB : Rows.uptoBulk x.1 ≤ B) (h : DataW.trod enc Tryd.prog w 0 sp held fuel 31 cs = some x) :
    ∃ p : Ty × Value, cs = p.1.row p.2 ∧ (p.1.row p.2).length = 4 ∧ (∀ u ∈ p.1.row p.2, u.oneCell' = true) ∧ TU F (· < w.heap.size) w p.2 p.1.args ∧ tyOk p.1 ∧ tyNm B p.1 := by
  obtain ⟨xs, n, hn, hxe, hl, hx, hf'⟩ := DataW.trod_struct Tryd.underlying31 h
  rw [cells_type] at hl
  have hx' : xs.length = 4 := hx
  clear hx
  match cs, hl, xs, hx' with
  | [a0, a1, a2, a3], _, [x0, x1, x2, x3], _ =>
    have f0 : DataW.trod enc Tryd.prog w 0 sp held n 3 (([a0, a1, a2, a3].drop 0).take (Tryd.prog.cellsOf 3)) = some x0 := hf' 0 _ rfl
    have f1 : DataW.trod enc Tryd.prog w 0 sp held n 9 (([a0, a1, a2, a3].drop 1).take (Tryd.prog.cellsOf 9)) = some x1 := hf' 1 _ rfl
    have f2 : DataW.trod enc Tryd.prog w 0 sp held n 3 (([a0, a1, a2, a3].drop 2).take (Tryd.prog.cellsOf 3)) = some x2 := hf' 2 _ rfl
    have f3 : DataW.trod enc Tryd.prog w 0 sp held n 29 (([a0, a1, a2, a3].drop 3).take (Tryd.prog.cellsOf 29)) = some x3 := hf' 3 _ rfl
    simp only [cells_int, cells_types, cells_string, List.drop, List.take] at f0 f1 f2 f3
    obtain ⟨z0, e0, _, r0⟩ := DataW.trod_int Tryd.underlying3 f0
    obtain ⟨z1, e1, q1, _⟩ := DataW.trod_string Tryd.underlying9 f1
    obtain ⟨z2, e2, _, r2⟩ := DataW.trod_int Tryd.underlying3 f2
    rw [hxe] at hB
    have b1 : z1.size ≤ B := by
      rw [q1] at hB
      simp only [List.map_cons, List.map_nil, Rows.uptoBulk, Rows.uptoBulkAll, Array.length_toList] at hB
      have : z1.data.size = z1.size := rfl
      omega
    have b3 : Rows.uptoBulk x3.1 ≤ B := by
      simp only [List.map_cons, List.map_nil, Rows.uptoBulk, Rows.uptoBulkAll] at hB
      omega
    obtain ⟨v3, l3, e3, h3, q3, k3, m3⟩ := IH _ _ _ (by omega) b3 f3
    simp at e0 e1 e2 e3
    subst e0 e1 e2 e3
    exact ⟨(.mk z0 z1 z2 l3, a3), rfl, rfl, by simp only [Ty.row, Ty.kind, Ty.name, Ty.index, List.mem_cons, List.not_mem_nil, or_false, forall_eq_or_imp, forall_eq]; exact ⟨rfl, rfl, rfl, h3⟩, q3, by rw [tyOk]; exact ⟨wf_i64 r0, wf_i64 r2, k3⟩, by rw [tyNm]; exact ⟨b1, m3⟩⟩

theorem open_types {B : Nat} : ∀ (F fuel : Nat) (cs : List Value) (x : DataW H × List MemPlace), fuel ≤ F → Rows.uptoBulk x.1 ≤ B → DataW.trod enc Tryd.prog w 0 sp held fuel 29 cs = some x → ∃ v l, cs = [v] ∧ v.oneCell' = true ∧ TU F (· < w.heap.size) w v l ∧ tysOk l ∧ tysNm B l
  | 0, fuel, cs, x, hf, _, h => by
    obtain rfl : fuel = 0 := by omega
    simp [DataW.trod] at h
  | F + 1, fuel, cs, x, hf, hB, h => by
    obtain ⟨v, l, rfl, h2, h3, h4⟩ := reads_openN (α := Ty × Value) Tryd.underlying29 cells_type (by decide) (fun p => p.1.row p.2) (fun p => TU F (· < w.heap.size) w p.2 p.1.args ∧ tyOk p.1 ∧ tyNm B p.1) (fun n cs y hn hy h => open_type F (open_types F) (by omega) (by omega) h) h
    exact ⟨v, l.map (·.1), rfl, h2, (show TU (F + 1) (· < w.heap.size) w v (l.map (·.1)) from rd_of (Q := fun S w e (x : Ty) => TU F S w e x.args) l h3 (fun p hp => (h4 p hp).1)), tysOk_map l (fun p hp => (h4 p hp).2.1), tysNm_map l (fun p hp => (h4 p hp).2.2)⟩

set_option maxRecDepth 100000 in
theorem open_act {B fuel : Nat} {cs : List Value} {x : DataW H × List MemPlace} (hB : Rows.uptoBulk x.1 ≤ B) (h : DataW.trod enc Tryd.prog w 0 sp held fuel 33 cs = some x) :
    ∃ p : Op31 × Value, cs = p.1.row p.2 ∧ (p.1.row p.2).length = 10 ∧ (∀ u ∈ p.1.row p.2, u.oneCell' = true) ∧ TU fuel (· < w.heap.size) w p.2 p.1.ty.args ∧ tyOk p.1.ty ∧ tyNm B p.1.ty := by
  obtain ⟨xs, n, hn, hxe, hl, hx, hf'⟩ := DataW.trod_struct Tryd.underlying33 h
  rw [cells_act] at hl
  have hx' : xs.length = 7 := hx
  clear hx
  match cs, hl, xs, hx' with
  | [a0, a1, a2, a3, a4, a5, a6, a7, a8, a9], _, [x0, x1, x2, x3, x4, x5, x6], _ =>
    have f0 : DataW.trod enc Tryd.prog w 0 sp held n 3 (([a0, a1, a2, a3, a4, a5, a6, a7, a8, a9].drop 0).take (Tryd.prog.cellsOf 3)) = some x0 := hf' 0 _ rfl
    have f1 : DataW.trod enc Tryd.prog w 0 sp held n 3 (([a0, a1, a2, a3, a4, a5, a6, a7, a8, a9].drop 1).take (Tryd.prog.cellsOf 3)) = some x1 := hf' 1 _ rfl
    have f2 : DataW.trod enc Tryd.prog w 0 sp held n 3 (([a0, a1, a2, a3, a4, a5, a6, a7, a8, a9].drop 2).take (Tryd.prog.cellsOf 3)) = some x2 := hf' 2 _ rfl
    have f3 : DataW.trod enc Tryd.prog w 0 sp held n 3 (([a0, a1, a2, a3, a4, a5, a6, a7, a8, a9].drop 3).take (Tryd.prog.cellsOf 3)) = some x3 := hf' 3 _ rfl
    have f4 : DataW.trod enc Tryd.prog w 0 sp held n 3 (([a0, a1, a2, a3, a4, a5, a6, a7, a8, a9].drop 4).take (Tryd.prog.cellsOf 3)) = some x4 := hf' 4 _ rfl
    have f5 : DataW.trod enc Tryd.prog w 0 sp held n 3 (([a0, a1, a2, a3, a4, a5, a6, a7, a8, a9].drop 5).take (Tryd.prog.cellsOf 3)) = some x5 := hf' 5 _ rfl
    have f6 : DataW.trod enc Tryd.prog w 0 sp held n 31 (([a0, a1, a2, a3, a4, a5, a6, a7, a8, a9].drop 6).take (Tryd.prog.cellsOf 31)) = some x6 := hf' 6 _ rfl
    simp only [cells_int, cells_type, List.drop, List.take] at f0 f1 f2 f3 f4 f5 f6
    obtain ⟨z0, e0, _, _⟩ := DataW.trod_int Tryd.underlying3 f0
    obtain ⟨z1, e1, _, _⟩ := DataW.trod_int Tryd.underlying3 f1
    obtain ⟨z2, e2, _, _⟩ := DataW.trod_int Tryd.underlying3 f2
    obtain ⟨z3, e3, _, _⟩ := DataW.trod_int Tryd.underlying3 f3
    obtain ⟨z4, e4, _, _⟩ := DataW.trod_int Tryd.underlying3 f4
    obtain ⟨z5, e5, _, _⟩ := DataW.trod_int Tryd.underlying3 f5
    rw [hxe] at hB
    have b6 : Rows.uptoBulk x6.1 ≤ B := by
      simp only [List.map_cons, List.map_nil, Rows.uptoBulk, Rows.uptoBulkAll] at hB
      omega
    obtain ⟨⟨y, v⟩, e6, _, o6, q6, k6, m6⟩ := open_type fuel (open_types fuel) (by omega) b6 f6
    simp at e0 e1 e2 e3 e4 e5
    simp only [Ty.row, List.cons.injEq, and_true] at e6 o6
    obtain ⟨rfl, rfl, rfl, rfl⟩ := e6
    subst e0 e1 e2 e3 e4 e5
    exact ⟨(⟨z0, z1, z2, z3, z4, z5, y⟩, a9), rfl, rfl, by simp only [Op31.row, List.mem_cons, List.not_mem_nil, or_false, forall_eq_or_imp, forall_eq] at o6 ⊢; exact ⟨rfl, rfl, rfl, rfl, rfl, rfl, o6⟩, q6, k6, m6⟩

theorem open_acts {B fuel : Nat} {cs : List Value} {x : DataW H × List MemPlace} (hB : Rows.uptoBulk x.1 ≤ B) (h : DataW.trod enc Tryd.prog w 0 sp held fuel 27 cs = some x) :
    ∃ v l, cs = [v] ∧ v.oneCell' = true ∧ ∃ F, Rd (fun S w e (x : Op31) => TU F S w e x.ty.args) Op31.row 10 (· < w.heap.size) w v l ∧ ∀ x ∈ l, tyOk x.ty ∧ tyNm B x.ty := by
  obtain ⟨v, l, rfl, h2, h3, h4⟩ := reads_openN (α := Op31 × Value) Tryd.underlying27 cells_act (by decide) (fun p => p.1.row p.2) (fun p => ∃ n, TU n (· < w.heap.size) w p.2 p.1.ty.args ∧ n ≤ fuel ∧ tyOk p.1.ty ∧ tyNm B p.1.ty) (fun n cs y hn hy h => by
    obtain ⟨p, h1, h2, h3, h4, h5⟩ := open_act (B := B) (by omega) h
    exact ⟨p, h1, h2, h3, n, h4, by omega, h5⟩) h
  have up : ∀ (k n : Nat) {S : Nat → Prop} {v : Value} {l : List Ty}, TU n S w v l → TU (n + k) S w v l := by
    have one : ∀ (n : Nat) {S : Nat → Prop} {v : Value} {l : List Ty}, TU n S w v l → TU (n + 1) S w v l := by
      intro n
      induction n with
      | zero =>
        intro S v l h
        obtain ⟨rfl, h⟩ := h
        exact ⟨[], rfl, h, fun k x e hx => by simp at hx⟩
      | succ n ih =>
        intro S v l h
        obtain ⟨es, h1, h2, h3⟩ := h
        exact ⟨es, h1, h2, fun k x e hx he => ih (h3 k x e hx he)⟩
    intro k
    induction k with
    | zero => intro n S v l h; exact h
    | succ k ih => intro n S v l h; exact one _ (ih n h)
  refine ⟨v, l.map (·.1), rfl, h2, fuel, rd_of (Q := fun S w e (x : Op31) => TU fuel S w e x.ty.args) l h3 (fun p hp => ?_), fun x hx => ?_⟩
  · obtain ⟨n, q1, q2, _⟩ := h4 p hp
    have := up (fuel - n) n q1
    rw [show n + (fuel - n) = fuel by omega] at this
    exact this
  · obtain ⟨p, hp, rfl⟩ := List.mem_map.1 hx
    obtain ⟨n, _, _, q⟩ := h4 p hp
    exact q
end
end Go.Proofs.YtkldomkooleecaaDoor
