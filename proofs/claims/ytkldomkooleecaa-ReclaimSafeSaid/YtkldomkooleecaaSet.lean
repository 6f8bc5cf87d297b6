/- A map from integers to true, kept in the order of insertion: laws for its making, its stores, look-ups and for ranging over it. No program is in sight here. -/
import Derived.Test.YtkldomkooleecaaMem
import Derived.Maps.RangeWalk
import Derived.Test.YtkldomkooleecaaLaw
namespace Go.Proofs.Ytkldomkooleecaa
open Go.RowKit

/-- The entries: key i of the list was born i-th. -/
def setEntries (k : Nat) : List Int → List MapEntry
  | [] => []
  | x :: l => { key := .int .i64 x, val := .bool true, born := k } :: setEntries (k + 1) l

def setObj (s : List Int) : Obj := .map (setEntries 0 s).toArray s.length

/-- Block b of w is the set s. -/
def IsSet (w : World) (b : Nat) (s : List Int) : Prop := s.Nodup ∧ w.heap[b]? = some (setObj s)

theorem IsSet.kept {w w' : World} {b : Nat} {s : List Int} {M : List Nat} (h : IsSet w b s) (k : Kept M w w') (hn : b ∉ M) : IsSet w' b s := ⟨h.1, k.get h.2 hn⟩
theorem IsSet.lt {w : World} {b : Nat} {s : List Int} (h : IsSet w b s) : b < w.heap.size := (Array.getElem?_eq_some_iff.1 h.2).1
theorem IsSet.made (w : World) : IsSet (w.alloc (.map #[] 0)) w.heap.size [] := ⟨by simp, heap_alloc_new w _⟩

theorem setEntries_length (l : List Int) : ∀ k, (setEntries k l).length = l.length := by
  induction l with
  | nil => intro k; rfl
  | cons x l ih => intro k; simp [setEntries, ih]
theorem setEntries_get (l : List Int) : ∀ (k i : Nat), (setEntries k l)[i]? = (l[i]?).map fun x => { key := .int .i64 x, val := .bool true, born := k + i } := by
  induction l with
  | nil => intro k i; simp [setEntries]
  | cons x l ih =>
    intro k i
    cases i with
    | zero => simp [setEntries]
    | succ i => simp only [setEntries, List.getElem?_cons_succ, ih]; congr 1; funext y; congr 1; omega
theorem setEntries_snoc (l : List Int) (x : Int) : ∀ k, setEntries k (l ++ [x]) = setEntries k l ++ [{ key := .int .i64 x, val := .bool true, born := k + l.length }] := by
  induction l with
  | nil => intro k; simp [setEntries]
  | cons y l ih => intro k; simp only [setEntries, List.cons_append, ih, List.length_cons]; congr 4; omega

theorem findNow_set (x : Int) : ∀ (l : List Int) (k i : Nat), Instr.findNow (.int .i64) (.int .i64 x) (setEntries k l) i =
    some (if x ∈ l then some (i + l.idxOf x, .bool true) else none) := by
  intro l
  induction l with
  | nil => intro k i; simp [setEntries, Instr.findNow]
  | cons y l ih =>
    intro k i
    simp only [setEntries, Instr.findNow, Instr.sameNow, if_true]
    by_cases h : x = y
    · subst h; simp
    · have hb : (x == y) = false := by simpa using h
      simp only [hb, ih, List.mem_cons, h, false_or]
      congr 1
      split
      · rw [List.idxOf_cons]
        have : (y == x) = false := by simp; exact fun e => h e.symm
        simp only [this, cond_false]
        congr 2
        omega
      · rfl

section
variable {P : Program} {w : World}

theorem run_findKey_set (K : TypeId) (hK : P.underlying K = some (.int .i64)) (x : Int) (l : List Int) :
    (Instr.findKey K (.int .i64 x) (setEntries 0 l)).run P w = .ok (if x ∈ l then some (l.idxOf x, .bool true) else none) w := by
  unfold Instr.findKey
  rw [Sem.run_bind, run_underlying hK]
  simp only [Result.andThen_ok, findNow_set, Sem.run_pure, Nat.zero_add]

theorem run_checkKey_int (e : Bool) (K : TypeId) (hK : P.underlying K = some (.int .i64)) (x : Int) : (Instr.checkKey e 10000 K (.int .i64 x)).run P w = .ok () w := by
  unfold Instr.checkKey
  rw [Sem.run_bind, run_underlying hK]
  simp

/-- The world with another object in block b. -/
def setO (w : World) (b : Nat) (o : Obj) : World := { w with heap := w.heap.setIfInBounds b o }
theorem Kept.setO {M : List Nat} {a b : World} (h : Kept M a b) {p : Nat} (hp : p ∈ M ∨ a.heap.size ≤ p) (o : Obj) : Kept M a (setO b p o) :=
  h.trans' (M' := [p]) ⟨rfl, rfl, rfl, by simp [Go.Proofs.Ytkldomkooleecaa.setO], fun k _ hn => by
    show (b.heap.setIfInBounds p o)[k]? = _
    rw [Array.getElem?_setIfInBounds, if_neg (by simp at hn; omega)]⟩ (by simpa using hp)

theorem set_modify_same (l : List Int) (i : Nat) (x : Int) (hi : l[i]? = some x) :
    (setEntries 0 l).toArray.modify i (fun e => { e with key := .int .i64 x, val := .bool true }) = (setEntries 0 l).toArray := by
  apply Array.ext_getElem?
  intro j
  rw [Array.getElem?_modify]
  split
  · rename_i h; subst h
    simp [setEntries_get, hi]
  · rfl

/-- 'm[x] = true'. -/
theorem run_mapUpdate_set (t K E : TypeId) (ht : P.underlying t = some (.map K E)) (hK : P.underlying K = some (.int .i64)) (b : Nat) (s : List Int) (h : IsSet w b s) (x : Int) :
    (Instr.mapUpdate t (.map (some b)) (.int .i64 x) (.bool true)).run P w = .ok () (setO w b (setObj (put s x))) := by
  have hg : (getObj b).run P w = .ok (setObj s) w := by simp [getObj, Sem.run, h.2, setObj]
  unfold Instr.mapUpdate
  rw [Sem.run_bind, run_underlying ht]
  simp only [Result.andThen_ok]
  rw [Sem.run_bind, hg]
  simp only [Result.andThen_ok, setObj]
  rw [Sem.run_bind, run_checkKey_int false K hK x]
  simp only [Result.andThen_ok]
  rw [Sem.run_bind, run_findKey_set K hK]
  simp only [Result.andThen_ok]
  by_cases hx : x ∈ s
  · simp only [hx, if_true]
    have hget : s[s.idxOf x]? = some x := by
      rw [List.getElem?_eq_getElem (List.idxOf_lt_length_of_mem hx)]; simp
    have hk : ((((setEntries 0 s).toArray)[s.idxOf x]?).map (·.key)).getD (.int .i64 x) = .int .i64 x := by
      simp [setEntries_get, hget]
    have hstay : (Instr.keyThatStays (.int .i64 x) (.int .i64 x)).run P w = .ok (.int .i64 x) w := by simp [Instr.keyThatStays, Instr.sameBits]
    rw [hk, Sem.run_bind, hstay]
    simp only [Result.andThen_ok, set_modify_same s _ x hget]
    have hput : put s x = s := by simp [put, hx]
    rw [hput]
    simp [Go.setObj, Sem.run, h.2, setObj, setO]
  · simp only [hx, if_false]
    have hput : put s x = s ++ [x] := by simp [put, hx]
    rw [hput]
    simp [Go.setObj, Sem.run, h.2, setObj, setO, setEntries_snoc]

theorem IsSet.put {b : Nat} {s : List Int} (h : IsSet w b s) (x : Int) : IsSet (setO w b (setObj (put s x))) b (put s x) := by
  refine ⟨put_nodup s x h.1, ?_⟩
  simp [setO, h.lt]

/-- 'm[x]'. -/
theorem run_lookup_set (t K E : TypeId) (ht : P.underlying t = some (.map K E)) (hK : P.underlying K = some (.int .i64)) (hz : (zeroValue E).run P w = .ok (.bool false) w) (b : Nat) (s : List Int) (h : IsSet w b s) (x : Int) :
    (Instr.lookup t (.map (some b)) (.int .i64 x) false).run P w = .ok (.bool (decide (x ∈ s))) w := by
  have hg : (getObj b).run P w = .ok (setObj s) w := by simp [getObj, Sem.run, h.2, setObj]
  unfold Instr.lookup
  rw [Sem.run_bind, run_underlying ht]
  simp only [Result.andThen_ok]
  rw [Sem.run_bind, hg]
  simp only [Result.andThen_ok, setObj]
  rw [Sem.run_bind, Sem.run_pure]
  simp only [Result.andThen_ok]
  rw [Sem.run_bind, run_checkKey_int _ K hK x]
  simp only [Result.andThen_ok]
  rw [Sem.run_bind, run_findKey_set K hK]
  simp only [Result.andThen_ok]
  by_cases hx : x ∈ s
  · simp [hx]
  · simp [hx, hz]

/-! ### ranging -/
theorem run_range_set (t K E : TypeId) (ht : P.underlying t = some (.map K E)) (b : Nat) (s : List Int) (h : IsSet w b s) :
    (Instr.range t (.map (some b))).run P w = .ok (.pointer (some ⟨w.heap.size, 0, none⟩)) (w.alloc (.mapIter (some b) s.length #[] s.length)) := by
  have hg : (getObj b).run P w = .ok (setObj s) w := by simp [getObj, Sem.run, h.2, setObj]
  unfold Instr.range
  rw [Sem.run_bind, run_underlying ht]
  simp only [Result.andThen_ok]
  rw [Sem.run_bind, hg]
  simp only [Result.andThen_ok, setObj, Sem.run_bind, Sem.run_pure]
  simp [newObj, Sem.run, Result.andThen]

/-- Block r is an iterator over the set s in block b that has met the places 'done'. -/
def IsIter (w : World) (r b : Nat) (s : List Int) (done : List Nat) : Prop :=
  done.Nodup ∧ (∀ i ∈ done, i < s.length) ∧ w.heap[r]? = some (.mapIter (some b) s.length done.toArray s.length)

theorem mem_setEntries {l : List Int} {e : MapEntry} (h : e ∈ setEntries 0 l) : ∃ i x, l[i]? = some x ∧ e = { key := .int .i64 x, val := .bool true, born := i } := by
  obtain ⟨i, hi⟩ := List.getElem?_of_mem h
  rw [setEntries_get] at hi
  cases hx : l[i]? with
  | none => simp [hx] at hi
  | some x => simp [hx] at hi; exact ⟨i, x, hx, hi.symm⟩

theorem find_setEntries (l : List Int) (i : Nat) (x : Int) (hx : l[i]? = some x) : (setEntries 0 l).find? (fun e => e.born == i) = some { key := .int .i64 x, val := .bool true, born := i } := by
  have key : ∀ (l : List Int) (k j : Nat) (x : Int), l[j]? = some x → (setEntries k l).find? (fun e => e.born == k + j) = some { key := .int .i64 x, val := .bool true, born := k + j } := by
    intro l
    induction l with
    | nil => intro k j x h; simp at h
    | cons y l ih =>
      intro k j x h
      cases j with
      | zero => simp at h; subst h; simp [setEntries]
      | succ j =>
        simp only [setEntries, List.find?_cons]
        have : (k == k + (j + 1)) = false := by simp
        rw [this]
        have := ih (k + 1) j x (by simpa using h)
        rw [show k + 1 + j = k + (j + 1) by omega] at this
        exact this
  have := key l 0 i x hx
  simpa using this

theorem run_next_set (ty : TypeId) (r b : Nat) (s : List Int) (done : List Nat) (h : IsSet w b s) (hi : IsIter w r b s done) :
    ((∀ i, i < s.length → i ∈ done) ∧ (Instr.next (.pointer (some ⟨r, 0, none⟩)) false ty).run P w = .ok (.tuple #[.bool false]) w) ∨
    (∃ i x w', i ∉ done ∧ s[i]? = some x ∧ (Instr.next (.pointer (some ⟨r, 0, none⟩)) false ty).run P w = .ok (.tuple #[.bool true, .int .i64 x, .bool true]) w' ∧
      IsIter w' r b s (done ++ [i]) ∧ Kept [r] w w' ∧ w'.heap.size = w.heap.size ∧
      (r ≠ b → (Instr.entry (.pointer (some ⟨r, 0, none⟩))).run P w' = .ok (.tuple #[.int .i64 x, .bool true]) w')) := by
  obtain ⟨hn, hlt, hr⟩ := hi
  have hg : (getObj b).run P w = .ok (setObj s) w := by simp [getObj, Sem.run, h.2, setObj]
  have hgr : (getObj r).run P w = .ok (.mapIter (some b) s.length done.toArray s.length) w := by simp [getObj, Sem.run, hr]
  have hall : (!done.toArray.isEmpty && !(setEntries 0 s).toArray.isEmpty && (setEntries 0 s).toArray.all (fun e => decide (e.born ≥ s.length))) = false := by
    cases s with
    | nil => simp [setEntries]
    | cons y l => simp [setEntries]
  have hold : ∀ q : MapEntry → Bool, ((setEntries 0 s).filter q).filter (fun e => decide (e.born < s.length)) = (setEntries 0 s).filter q := by
    intro q
    rw [List.filter_eq_self]
    intro e he
    obtain ⟨i, x, hx, rfl⟩ := mem_setEntries (List.mem_filter.1 he).1
    have := (List.getElem?_eq_some_iff.1 hx).1
    simpa using this
  have hnew : ∀ q : MapEntry → Bool, ((setEntries 0 s).filter q).filter (fun e => decide (e.born ≥ s.length)) = [] := by
    intro q
    rw [List.filter_eq_nil_iff]
    intro e he
    obtain ⟨i, x, hx, rfl⟩ := mem_setEntries (List.mem_filter.1 he).1
    have := (List.getElem?_eq_some_iff.1 hx).1
    simpa using this
  obtain ⟨L, hL⟩ : ∃ L, L = (setEntries 0 s).filter (fun e => !done.toArray.contains e.born) := ⟨_, rfl⟩
  have hrun : (Instr.next (.pointer (some ⟨r, 0, none⟩)) false ty).run P w = ((choose (.mapNext ((if L.isEmpty then #[none] else #[]) ++ (L.map some).toArray).size)).run P w).andThen fun c w1 =>
      (match ((if L.isEmpty then #[none] else #[]) ++ (L.map some).toArray)[c]? with
        | some (some e) => do
          Go.setObj r (.mapIter (some b) s.length (done.toArray.push e.born) s.length)
          pure (.tuple #[.bool true, e.key, e.val])
        | some none => pure (.tuple #[.bool false])
        | none => stuck "Next: no such candidate" : Sem Value).run P w1 := by
    unfold Instr.next
    simp only []
    rw [Sem.run_bind, hgr]
    simp only [Result.andThen_ok]
    rw [Sem.run_bind, hg]
    simp only [Result.andThen_ok, setObj, hall, Bool.false_eq_true, if_false]
    rw [List.filter_toArray, List.filter_toArray, List.filter_toArray, hold, hnew, ← hL]
    simp only [Array.append_empty, List.isEmpty_toArray, List.map_toArray]
    rw [Sem.run_bind]
    rfl
  by_cases hLe : L = []
  · left
    refine ⟨fun i hi => ?_, ?_⟩
    · have hx : s[i]? = some s[i] := by simp
      have hm : ({ key := .int .i64 s[i], val := .bool true, born := i } : MapEntry) ∈ setEntries 0 s := by
        apply List.mem_of_getElem? (i := i)
        rw [setEntries_get, hx]; simp
      have hf := (List.filter_eq_nil_iff.1 (hL.symm.trans hLe)) _ hm
      simpa using hf
    · rw [hrun]
      subst hLe
      simp [choose, Sem.run, Question.forced, Result.andThen]
  · right
    have hLe' : L.isEmpty = false := by simpa using hLe
    have hpick : ∀ c, c < L.length → ∃ i x, i ∉ done ∧ s[i]? = some x ∧ ((if L.isEmpty then #[none] else #[]) ++ (L.map some).toArray)[c]? = some (some { key := .int .i64 x, val := .bool true, born := i }) := by
      intro c hc
      obtain ⟨e, he0⟩ : ∃ e, L[c]? = some e := ⟨L[c], by simp⟩
      have hme := List.mem_of_getElem? he0
      rw [hL] at hme
      have hme' := List.mem_filter.1 hme
      obtain ⟨i, x, hx, he⟩ := mem_setEntries hme'.1
      subst he
      refine ⟨i, x, ?_, hx, ?_⟩
      · simpa using hme'.2
      · simp [hLe', he0]
    have fin : ∀ (c : Nat) (w1 : World), c < L.length → w1.heap = w.heap → Kept [r] w w1 → ∃ i x w', i ∉ done ∧ s[i]? = some x ∧
        ((match ((if L.isEmpty then #[none] else #[]) ++ (L.map some).toArray)[c]? with
        | some (some e) => do
          Go.setObj r (.mapIter (some b) s.length (done.toArray.push e.born) s.length)
          pure (.tuple #[.bool true, e.key, e.val])
        | some none => pure (.tuple #[.bool false])
        | none => stuck "Next: no such candidate" : Sem Value).run P w1) = .ok (.tuple #[.bool true, .int .i64 x, .bool true]) w' ∧
        IsIter w' r b s (done ++ [i]) ∧ Kept [r] w w' ∧ w'.heap.size = w.heap.size ∧
        (r ≠ b → (Instr.entry (.pointer (some ⟨r, 0, none⟩))).run P w' = .ok (.tuple #[.int .i64 x, .bool true]) w') := by
      intro c w1 hc hh hk
      obtain ⟨i, x, hid, hx, hcand⟩ := hpick c hc
      have hr1 : w1.heap[r]? = some (.mapIter (some b) s.length done.toArray s.length) := by rw [hh]; exact hr
      have hr2 : (setO w1 r (.mapIter (some b) s.length (done ++ [i]).toArray s.length)).heap[r]? = some (.mapIter (some b) s.length (done ++ [i]).toArray s.length) := by
        simp [setO, (Array.getElem?_eq_some_iff.1 hr1).1]
      refine ⟨i, x, setO w1 r (.mapIter (some b) s.length (done ++ [i]).toArray s.length), hid, hx, ?_, ⟨?_, ?_, hr2⟩, hk.setO (.inl (by simp)) _, by simp [setO, hh], fun hne => ?_⟩
      · rw [hcand]
        simp [Go.setObj, Sem.run, hr1, setO]
      · rw [List.nodup_append]
        exact ⟨hn, by simp, fun a ha b hb => by simp at hb; subst hb; rintro rfl; exact hid ha⟩
      · intro j hj
        rcases List.mem_append.1 hj with hj | hj
        · exact hlt j hj
        · simp at hj; subst hj; exact (List.getElem?_eq_some_iff.1 hx).1
      · have hb2 : (setO w1 r (.mapIter (some b) s.length (done ++ [i]).toArray s.length)).heap[b]? = some (setObj s) := by
          simp [setO, hne, hh, h.2]
        unfold Instr.entry
        simp only []
        rw [Sem.run_bind]
        simp only [getObj, Sem.run, hr2, Result.andThen_ok]
        rw [show (done ++ [i]).toArray.back? = some i by simp]
        simp only []
        rw [Sem.run_bind]
        simp only [Sem.run, hb2, Result.andThen_ok, setObj]
        simp [find_setEntries s i x hx]
    by_cases h1 : L.length ≤ 1
    · obtain ⟨i, x, w', g1, g2, g3, g4⟩ := fin 0 w (by have := List.length_pos_iff.2 hLe; omega) rfl (Kept.refl _ _)
      refine ⟨i, x, w', g1, g2, ?_, g4⟩
      rw [hrun, ← g3]
      simp [choose, Sem.run, Question.forced, Result.andThen, hLe', h1]
    · obtain ⟨i, x, w', g1, g2, g3, g4⟩ := fin ((Question.mapNext L.length).cut (w.tape w.drawn (.mapNext L.length))) w.drew (by simp only [Question.cut]; exact Nat.mod_lt _ (by omega)) rfl ((Kept.refl _ _).drew)
      refine ⟨i, x, w', g1, g2, ?_, g4⟩
      rw [hrun, ← g3]
      have : ¬ L.length ≤ 1 := h1
      simp [choose, Sem.run, Question.forced, Result.andThen, hLe', this]
end

/-! ### at the operations, for the walk -/
section
variable {P : Program} {w : World} {ops : Array Oper} {rest : List Oper} {o : Oper} {a : Act} {Q : Exit → Act → World → Prop}

theorem wpList_set_put (hg : o.guard = none) (m k v : Operand) (t : TypeId) (hop : o.op = .mapUpdate t m k v ∨ o.op = .insert t m k v) (K E : TypeId) (ht : P.underlying t = some (.map K E)) (hK : P.underlying K = some (.int .i64))
    (b : Nat) (s : List Int) (x : Int) (hm : a.eval m = .map (some b)) (hx : a.eval k = .int .i64 x) (hv : a.eval v = .bool true) (h : IsSet w b s)
    (hN : ∀ w', IsSet w' b (put s x) → Kept [b] w w' → w'.heap.size = w.heap.size → wpList P ops Q rest (a.put o.dst undef) w') : wpList P ops Q (o :: rest) a w := by
  refine wpList_plain hg fun K' hK' => ?_
  have hr := run_mapUpdate_set (P := P) t K E ht hK b s h x
  unfold Oper.wp execOp
  rcases hop with hop | hop <;>
  · simp only [hop, hm, hx, hv, Sem.run_bind, hr, Result.andThen_ok]
    exact hK' _ _ (hN _ (h.put x) ((Kept.refl _ _).setO (.inl (by simp)) _) (by simp [setO]))

theorem wpList_set_range (hg : o.guard = none) (m : Operand) (t : TypeId) (hop : o.op = .range t m) (K E : TypeId) (ht : P.underlying t = some (.map K E)) (b : Nat) (s : List Int) (hm : a.eval m = .map (some b)) (h : IsSet w b s)
    (hN : ∀ w', IsSet w' b s → IsIter w' w.heap.size b s [] → Kept [] w w' → w'.heap.size = w.heap.size + 1 → wpList P ops Q rest (a.put o.dst (.pointer (some ⟨w.heap.size, 0, none⟩))) w') : wpList P ops Q (o :: rest) a w := by
  refine wpList_plain hg fun K' hK' => ?_
  have hr := run_range_set (P := P) t K E ht b s h
  unfold Oper.wp execOp
  simp only [hop, hm, Sem.run_bind, hr, Result.andThen_ok]
  have hk : Kept [] w (w.alloc (.mapIter (some b) s.length #[] s.length)) := (Kept.refl _ _).alloc _
  exact hK' _ _ (hN _ (h.kept hk (by simp)) ⟨by simp, by simp, heap_alloc_new w _⟩ hk (by simp))

theorem wpList_set_next (hg : o.guard = none) (it : Operand) (hop : o.op = .next it false) (r b : Nat) (s : List Int) (done : List Nat) (hit : a.eval it = .pointer (some ⟨r, 0, none⟩)) (h : IsSet w b s) (hi : IsIter w r b s done) (hne : r ≠ b)
    (hD : (∀ i, i < s.length → i ∈ done) → wpList P ops Q rest (a.put o.dst (.tuple #[.bool false])) w)
    (hM : ∀ i x w', i ∉ done → s[i]? = some x → IsSet w' b s → IsIter w' r b s (done ++ [i]) → Kept [r] w w' → w'.heap.size = w.heap.size →
      (Instr.entry (.pointer (some ⟨r, 0, none⟩))).run P w' = .ok (.tuple #[.int .i64 x, .bool true]) w' → wpList P ops Q rest (a.put o.dst (.tuple #[.bool true, .int .i64 x, .bool true])) w') :
    wpList P ops Q (o :: rest) a w := by
  refine wpList_plain hg fun K' hK' => ?_
  unfold Oper.wp execOp
  rcases run_next_set (P := P) o.type r b s done h hi with ⟨h1, h2⟩ | ⟨i, x, w', h1, h2, h3, h4, h5, h6, h7⟩
  · simp only [hop, hit, Sem.run_bind, h2, Result.andThen_ok]
    exact hK' _ _ (hD h1)
  · simp only [hop, hit, Sem.run_bind, h3, Result.andThen_ok]
    exact hK' _ _ (hM i x w' h1 h2 (h.kept h5 (by simpa using Ne.symm hne)) h4 h5 h6 (h7 hne))
end

/-- What an iterator that is through has met: all of it, once. -/
theorem iter_perm (s : List Int) (done : List Nat) (hn : done.Nodup) (hl : ∀ i ∈ done, i < s.length) (ha : ∀ i, i < s.length → i ∈ done) : (done.map fun i => s.getD i 0).Perm s := by
  have h1 : done.Perm (List.range s.length) := by
    rw [List.perm_ext_iff_of_nodup hn List.nodup_range]
    intro i
    rw [List.mem_range]
    exact ⟨hl i, ha i⟩
  refine (h1.map _).trans ?_
  rw [show (List.range s.length).map (fun i => s.getD i 0) = s from ?_]
  apply List.ext_getElem (by simp)
  intro i h1 h2
  simp [List.getD, h2]
end Go.Proofs.Ytkldomkooleecaa
