/- One cell of one row turned; the length of a set. -/
import Derived.Test.YtkldomkooleecaaActs
import Derived.Test.YtkldomkooleecaaSane34
import Derived.Laws.OwnMore
namespace Go.Proofs.Ytkldomkooleecaa
open Go.RowKit

theorem flatten_set {size : Nat} : ∀ {rows : List (List Value)}, (∀ r ∈ rows, r.length = size) → ∀ {k j : Nat} {r : List Value} {v : Value}, rows[k]? = some r → j < size → rows.flatten.set (k * size + j) v = (rows.set k (r.set j v)).flatten
  | [], _, k, j, r, v, h, _ => by simp at h
  | q :: rows, hs, 0, j, r, v, h, hj => by
    simp at h
    subst h
    have hq := hs q (by simp)
    rw [List.flatten_cons, List.set_append_left _ _ (by omega), Nat.zero_mul, Nat.zero_add]
    rfl
  | q :: rows, hs, k + 1, j, r, v, h, hj => by
    have hq := hs q (by simp)
    rw [List.flatten_cons, List.set_append_right _ _ (by rw [hq, Nat.add_mul]; omega), hq, show (k + 1) * size + j - size = k * size + j by rw [Nat.add_mul]; omega, flatten_set (fun r hr => hs r (by simp [hr])) (by simpa using h) hj]
    rfl

theorem zip_set {β : Type} {r : β → Value → List Value} : ∀ {l : List β} {es : List Value} {k : Nat} {x : β} {e : Value}, es.length = l.length → es[k]? = some e → List.zipWith r (l.set k x) es = (List.zipWith r l es).set k (r x e)
  | [], es, k, x, e, h, he => by simp at h; subst h; simp at he
  | y :: l, [], k, x, e, h, he => by simp at h
  | y :: l, e' :: es, 0, x, e, h, he => by simp at he; subst he; rfl
  | y :: l, e' :: es, k + 1, x, e, h, he => by
    simp only [List.set_cons_succ, List.zipWith_cons_cons]
    rw [zip_set (by simpa using h) (by simpa using he)]

/-- The operation with its frame's world raised by one. -/
def up (x : Ac) : Ac := ⟨x.op, ⟨x.f.code, x.f.method, x.f.world + 1, x.f.pc, x.f.slots⟩⟩
theorem up_row (x : Ac) (e : Value) : (up x).row e = (x.row e).set 3 (.int .i64 (x.f.world + 1)) := rfl

/-- What a walk needs of operations in memory. -/
theorem Gr.acts {S : Nat → Prop} {w : World} {v : Value} {l : List Ac} {base : Nat} (h : Gr (fun S w e (x : Ac) => VR 2 S w e x.f.slots) Ac.row 6 45 S base w v l) : ∃ a cap, v = .slice a l.length cap ∧ l.length ≤ cap ∧ cap ≤ 9223372036854775807 ∧
    (l = [] ∨ ∃ g, a = some ⟨g, 0, none⟩ ∧ base ≤ g ∧ g < w.heap.size ∧ (∀ k, w.frozen? ⟨g, k, none⟩ = false) ∧ ∀ (k : Nat) (x : Ac), l[k]? = some x → ∃ e, w.rangeAt g (k * 6) (x.row e) ∧ (∀ u ∈ x.row e, u.oneCell' = true) ∧ VR 2 (fun y => S y ∧ y ≠ g) w e x.f.slots ∧
      Gr (fun S w e (x : Ac) => VR 2 S w e x.f.slots) Ac.row 6 45 S base (w.setCell ⟨g, k * 6 + 3, none⟩ (.int .i64 (x.f.world + 1))) v (l.set k (up x))) := by
  obtain ⟨es, h1, h2, h3⟩ := h
  have hlen : (List.zipWith Ac.row l es).length = l.length := zip_len h1
  rcases h2.row.2 with ⟨rfl, h0⟩ | ⟨g, cap, cur, rfl, hb, hg, g3, g4, _⟩
  · rw [hlen] at h0
    exact ⟨none, 0, by rw [h0], by omega, by omega, .inl (List.eq_nil_of_length_eq_zero h0)⟩
  · rw [hlen] at g3
    refine ⟨some ⟨g, 0, none⟩, cap, by rw [hlen], g3, by simpa [maxLen] using g4, .inr ⟨g, rfl, hb, (Array.getElem?_eq_some_iff.1 hg).1, fun k => h2.free k, fun k x hx => ?_⟩⟩
    obtain ⟨e, he, hz⟩ := zip_get (r := Ac.row) h1 hx
    have hr := h2.rows
    obtain ⟨_, a, cap', hv, _, _, hr⟩ := hr
    simp only [Value.slice.injEq] at hv
    obtain ⟨rfl, _, rfl⟩ := hv
    have hk := (List.getElem?_eq_some_iff.1 hx).1
    obtain ⟨b', off, hab, _, _, hrow⟩ := hr.resolve_left (by intro e0; have := congrArg List.length e0; rw [hlen] at this; simp at this; subst this; simp at hx)
    cases hab
    have hrr := hrow k _ hz
    rw [Nat.zero_add] at hrr
    have hkG : Kept [g] w (w.setCell ⟨g, k * 6 + 3, none⟩ (.int .i64 (x.f.world + 1))) := (Kept.refl _ _).setCell (by simp) _
    refine ⟨e, hrr, (h2.each _ (List.mem_of_getElem? hz)).2, (VR.good 2).mono (h3 k x e hx he) (fun y _ hy => ⟨hy.1, by have := hy.2; simp [Value.ownBlock] at this; exact fun e => this e.symm⟩), es, by simp [h1], ⟨?_, ?_⟩, fun j z e' hz' he' => ?_⟩
    · rw [zip_set h1 he, up_row]
      have hst := (h2.row.stored (k * 6 + 3) (.int .i64 (x.f.world + 1))).1
      rw [flatten_set (fun r hr => (h2.each r hr).1) hz (by omega)] at hst
      simpa using hst
    · intro r hr
      rw [zip_set h1 he] at hr
      rcases List.mem_or_eq_of_mem_set hr with hr | rfl
      · exact h2.each r hr
      · refine ⟨rfl, fun u hu => ?_⟩
        rw [up_row] at hu
        rcases List.mem_or_eq_of_mem_set hu with hu | rfl
        · exact (h2.each _ (List.mem_of_getElem? hz)).2 u hu
        · rfl
    · have hq : VR 2 (fun y => S y ∧ (Value.slice (some ⟨g, 0, none⟩) (List.zipWith Ac.row l es).length cap).ownBlock ≠ some y) w e' z.f.slots := by
        by_cases hjk : j = k
        · subst hjk
          have hz2 : z = up x := by
            rw [List.getElem?_set_self hk] at hz'
            exact (Option.some.inj hz').symm
          subst hz2
          obtain rfl : e' = e := by rw [he] at he'; exact (Option.some.inj he').symm
          exact h3 j x e' hx he
        · rw [List.getElem?_set_ne (by omega)] at hz'
          exact h3 j z e' hz' he'
      exact (VR.good 2).kept hq hkG (by simp [Value.ownBlock])

section
variable {P : Program} {w : World} {ops : Array Oper} {rest : List Oper} {o : Oper} {a : Act} {Q : Exit → Act → World → Prop}
theorem run_len_set (t K E : TypeId) (ht : P.underlying t = some (.map K E)) (ty : TypeId) (b : Nat) (s : List Int) (h : IsSet w b s) : (Builtin.len_ #[t] ty #[.map (some b)]).run P w = .ok (.int .i64 s.length) w := by
  have hb : w.heap[b]? = some (.map (setEntries 0 s).toArray s.length) := h.2
  simp [Builtin.len_, run_underlying ht, MapKept.run_getObj_map hb, goInt, Result.andThen, setEntries_length]
theorem wpList_set_len (hg : o.guard = none) (m : Operand) (t : TypeId) (hop : o.op = Op.call { callee := Callee.builtin Builtin.len, args := #[m], argTypes := #[t] })
    (K E : TypeId) (ht : P.underlying t = some (.map K E)) (b : Nat) (s : List Int) (hm : a.eval m = .map (some b)) (h : IsSet w b s)
    (hK : wpList P ops Q rest (a.put o.dst (.int .i64 s.length)) w) : wpList P ops Q (o :: rest) a w := by
  refine wpList_plain hg fun K' hK' => ?_
  unfold Oper.wp
  simp [execOp, hop, resolve, invoke, builtin, hm, run_len_set t K E ht o.type b s h, Result.andThen]
  exact hK' _ _ hK
end
end Go.Proofs.Ytkldomkooleecaa
