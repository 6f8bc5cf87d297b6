/- A map as its entries: laws for look-ups, stores, deletions and for ranging over it. No program is in sight here. -/
import Derived.Test.YtkldomkooleecaaGreatDoorMem
import Derived.Maps.Keyed
import Derived.MapKept
import Derived.WideKeyRuns
namespace Go.Proofs.YtkldomkooleecaaGreatDoor
open Go.RowKit Go.Maps Go.MapKept

/-- The world with another object in block b. -/
def setO (w : World) (b : Nat) (o : Obj) : World := { w with heap := w.heap.setIfInBounds b o }
theorem Kept.setO {M : List Nat} {a b : World} (h : Kept M a b) {p : Nat} (hp : p ∈ M ∨ a.heap.size ≤ p) (o : Obj) : Kept M a (setO b p o) :=
  h.trans' (M' := [p]) ⟨rfl, rfl, rfl, by simp [Go.Proofs.YtkldomkooleecaaGreatDoor.setO], fun k _ hn => by
    show (b.heap.setIfInBounds p o)[k]? = _
    rw [Array.getElem?_setIfInBounds, if_neg (by simp at hn; omega)]⟩ (by simpa using hp)
theorem setO_get {w : World} {b : Nat} {o o' : Obj} (h : w.heap[b]? = some o) : (setO w b o').heap[b]? = some o' := (MapKept.heap_set h).1
theorem setO_size (w : World) (b : Nat) (o : Obj) : (setO w b o).heap.size = w.heap.size := by simp [setO]

/-- What the laws need of a type of keys: ok tells its values. -/
structure KeyTy (P : Program) (K : TypeId) (ok : Value → Prop) : Prop where
  check : ∀ (w : World) (em : Bool) {v : Value}, ok v → (Instr.checkKey em 10000 K v).run P w = .ok () w
  find : ∀ (w : World) {x : Value}, ok x → ∀ es : List MapEntry, (∀ e ∈ es, ok e.key) →
    ((Instr.findKey K x es).run P w = .ok none w ∧ ∀ e ∈ es, e.key ≠ x) ∨ ∃ j e, (Instr.findKey K x es).run P w = .ok (some (j, e.val)) w ∧ es[j]? = some e ∧ e.key = x
  stays : ∀ (w : World) {v : Value}, ok v → (Instr.keyThatStays v v).run P w = .ok v w
def IntKey (v : Value) : Prop := ∃ n : Int, v = .int .i64 n
theorem int_key {P : Program} {K : TypeId} (hK : P.underlying K = some (.int .i64)) : KeyTy P K IntKey := by
  have isk : ∀ v, IntKey v → IsKey (.int .i64) v := fun v ⟨n, h⟩ => by subst h; exact rfl
  refine ⟨fun w em v h => run_checkKey hK (isk v h) em 9999, fun w x hx es hes => ?_, fun w v h => run_keyThatStays (isk v h)⟩
  rcases findNow_spec (isk x hx) es 0 (fun e he => isk _ (hes e he)) with ⟨h1, h2⟩ | ⟨j, e0, h1, h2, h3⟩
  · exact .inl ⟨run_findKey hK h1, h2⟩
  · exact .inr ⟨j, e0, by simpa using run_findKey hK h1, h2, h3⟩
/-- A type of keys whose comparison is known: arrays and structs. -/
theorem wide_key {P : Program} {K : TypeId} {ok : Value → Prop} (hwide : (match P.underlying K with | some (.array _ _) | some (.struct _) => true | _ => false) = true)
    (check : ∀ (w : World) (em : Bool) {v : Value}, ok v → (Instr.checkKey em 10000 K v).run P w = .ok () w)
    (eq : ∀ (w : World) {a b : Value}, ok a → ok b → ∃ r, (Op.equal K a b).run P w = .ok r w ∧ (r = true ↔ a = b))
    (stays : ∀ (w : World) {v : Value}, ok v → (Instr.keyThatStays v v).run P w = .ok v w) : KeyTy P K ok := by
  refine ⟨check, fun w x hx es hes => ?_, stays⟩
  have key : ∀ (es : List MapEntry) (i : Nat), (∀ e ∈ es, ok e.key) → ((Instr.findAsking K x es i).run P w = .ok none w ∧ ∀ e ∈ es, e.key ≠ x) ∨ ∃ j e, (Instr.findAsking K x es i).run P w = .ok (some (i + j, e.val)) w ∧ es[j]? = some e ∧ e.key = x := by
    intro es
    induction es with
    | nil => intro i _; exact .inl ⟨by simp [Instr.findAsking], by simp⟩
    | cons e es ih =>
      intro i hes
      obtain ⟨r, h1, h2⟩ := eq w hx (hes e (by simp))
      cases r
      · have hne : e.key ≠ x := fun h => by have := h2.2 h.symm; cases this
        rcases ih (i + 1) (fun e' he => hes e' (by simp [he])) with ⟨h3, h4⟩ | ⟨j, e', h3, h4, h5⟩
        · refine .inl ⟨by simp [Instr.findAsking, h1, h3], fun e' he => ?_⟩
          rcases List.mem_cons.1 he with rfl | he
          · exact hne
          · exact h4 e' he
        · exact .inr ⟨j + 1, e', by simp [Instr.findAsking, h1, h3]; omega, by simpa using h4, h5⟩
      · exact .inr ⟨0, e, by simp [Instr.findAsking, h1], rfl, (h2.1 rfl).symm⟩
  rw [run_findKey_eq w hwide]
  have := key es 0 hes
  simpa using this

/-- Block b of w is the map with the entries es; the next of them is born n-th. -/
structure IsMap (ok : Value → Prop) (w : World) (b : Nat) (es : List MapEntry) (n : Nat) : Prop where
  obj : w.heap[b]? = some (.map es.toArray n)
  keys : ∀ e ∈ es, ok e.key
  nodup : (es.map (·.key)).Nodup
  born : (es.map (·.born)).Nodup
  below : ∀ e ∈ es, e.born < n

section
variable {P : Program} {K : TypeId} {ok : Value → Prop} {w w' : World} {b n : Nat} {es : List MapEntry}

theorem IsMap.kept {M : List Nat} (h : IsMap ok w b es n) (k : Kept M w w') (hn : b ∉ M) : IsMap ok w' b es n := ⟨k.get h.obj hn, h.keys, h.nodup, h.born, h.below⟩
theorem IsMap.lt (h : IsMap ok w b es n) : b < w.heap.size := (Array.getElem?_eq_some_iff.1 h.obj).1
theorem IsMap.empty (h : w.heap[b]? = some (.map #[] 0)) : IsMap ok w b [] 0 := ⟨h, by simp, by simp, by simp, by simp⟩
theorem IsMap.made (w : World) : IsMap ok (w.alloc (.map #[] 0)) w.heap.size [] 0 := .empty (heap_alloc_new w _)

theorem nodup_get {α : Type} {l : List α} (h : l.Nodup) {i j : Nat} {x : α} (hi : l[i]? = some x) (hj : l[j]? = some x) : i = j := by
  obtain ⟨h1, e1⟩ := List.getElem?_eq_some_iff.1 hi
  obtain ⟨h2, e2⟩ := List.getElem?_eq_some_iff.1 hj
  have hp := List.pairwise_iff_getElem.1 h
  rcases Nat.lt_trichotomy i j with hl | hl | hl
  · exact absurd (e1.trans e2.symm) (hp i j h1 h2 hl)
  · exact hl
  · exact absurd (e2.trans e1.symm) (hp j i h2 h1 hl)
theorem set_same {α : Type} {l : List α} {i : Nat} {x : α} (h : l[i]? = some x) : l.set i x = l := by
  apply List.ext_getElem?
  intro j
  rw [List.getElem?_set]
  split
  · rename_i hj
    subst hj
    rw [if_pos (List.getElem?_eq_some_iff.1 h).1, h]
  · rfl

theorem IsMap.found (law : KeyTy P K ok) (h : IsMap ok w b es n) {i : Nat} {e : MapEntry} (hi : es[i]? = some e) (W : World) : (Instr.findKey K e.key es).run P W = .ok (some (i, e.val)) W := by
  have hl := h.keys e (List.mem_of_getElem? hi)
  rcases law.find W hl es h.keys with ⟨_, h2⟩ | ⟨j, e', h1, h2, h3⟩
  · exact absurd rfl (h2 e (List.mem_of_getElem? hi))
  · have : i = j := nodup_get h.nodup (x := e.key) (by simp [hi]) (by simp [h2, h3])
    subst this
    rw [hi] at h2
    cases h2
    exact h1
theorem IsMap.lacks (law : KeyTy P K ok) (h : IsMap ok w b es n) {x : Value} (hx : ok x) (hno : ∀ e ∈ es, e.key ≠ x) (W : World) : (Instr.findKey K x es).run P W = .ok none W := by
  rcases law.find W hx es h.keys with ⟨h1, _⟩ | ⟨j, e', _, h2, h3⟩
  · exact h1
  · exact absurd h3 (hno e' (List.mem_of_getElem? h2))

variable {t E : TypeId}
theorem IsMap.lookup_some (law : KeyTy P K ok) (ht : P.underlying t = some (.map K E)) (h : IsMap ok w b es n) {e : MapEntry} (he : e ∈ es) (co : Bool) :
    (Instr.lookup t (.map (some b)) e.key co).run P w = .ok (if co then .tuple #[e.val, .bool true] else e.val) w := by
  obtain ⟨i, hi⟩ := List.getElem?_of_mem he
  have hl := h.keys e he
  unfold Instr.lookup
  rw [Sem.run_bind, run_underlying ht]
  simp [MapKept.run_getObj_map h.obj, law.check w _ hl, h.found law hi]
theorem IsMap.lookup_none (law : KeyTy P K ok) (ht : P.underlying t = some (.map K E)) {z : Value} (hz : (zeroValue E).run P w = .ok z w) (h : IsMap ok w b es n) {x : Value} (hx : ok x) (hno : ∀ e ∈ es, e.key ≠ x) (co : Bool) :
    (Instr.lookup t (.map (some b)) x co).run P w = .ok (if co then .tuple #[z, .bool false] else z) w := by
  unfold Instr.lookup
  rw [Sem.run_bind, run_underlying ht]
  simp [MapKept.run_getObj_map h.obj, law.check w _ hx, h.lacks law hx hno, hz]

theorem IsMap.snoc (h : IsMap ok w b es n) {x v : Value} (hx : ok x) (hno : ∀ e ∈ es, e.key ≠ x) :
    IsMap ok (setO w b (.map (es ++ [({ key := x, val := v, born := n } : MapEntry)]).toArray (n + 1))) b (es ++ [({ key := x, val := v, born := n } : MapEntry)]) (n + 1) := by
  refine ⟨setO_get h.obj, fun e he => ?_, ?_, ?_, fun e he => ?_⟩
  · rcases List.mem_append.1 he with he | he
    · exact h.keys e he
    · simp at he; subst he; exact hx
  · rw [List.map_append, List.nodup_append]
    refine ⟨h.nodup, by simp, fun a ha c hc => ?_⟩
    simp at hc
    subst hc
    obtain ⟨e, he, rfl⟩ := List.mem_map.1 ha
    exact hno e he
  · rw [List.map_append, List.nodup_append]
    refine ⟨h.born, by simp, fun a ha c hc => ?_⟩
    simp at hc
    subst hc
    obtain ⟨e, he, rfl⟩ := List.mem_map.1 ha
    have := h.below e he
    omega
  · rcases List.mem_append.1 he with he | he
    · have := h.below e he; omega
    · simp at he; subst he; exact Nat.lt_succ_self _

theorem IsMap.update_new (law : KeyTy P K ok) (ht : P.underlying t = some (.map K E)) (h : IsMap ok w b es n) {x v : Value} (hx : ok x) (hno : ∀ e ∈ es, e.key ≠ x) :
    (Instr.mapUpdate t (.map (some b)) x v).run P w = .ok () (setO w b (.map (es ++ [({ key := x, val := v, born := n } : MapEntry)]).toArray (n + 1))) := by
  unfold Instr.mapUpdate
  rw [Sem.run_bind, run_underlying ht]
  simp [MapKept.run_getObj_map h.obj, law.check w _ hx, h.lacks law hx hno, MapKept.run_setObj_map _ h.obj, setO]

theorem IsMap.set (h : IsMap ok w b es n) {i : Nat} {e : MapEntry} (hi : es[i]? = some e) (v : Value) :
    IsMap ok (setO w b (.map (es.set i { e with val := v }).toArray n)) b (es.set i { e with val := v }) n := by
  have hk : (es.set i { e with val := v }).map (·.key) = es.map (·.key) := by
    rw [List.map_set]
    exact set_same (by simp [hi])
  have hb : (es.set i { e with val := v }).map (·.born) = es.map (·.born) := by
    rw [List.map_set]
    exact set_same (by simp [hi])
  have hm := List.mem_of_getElem? hi
  refine ⟨setO_get h.obj, fun e' he => ?_, by rw [hk]; exact h.nodup, by rw [hb]; exact h.born, fun e' he => ?_⟩
  · rcases List.mem_or_eq_of_mem_set he with he | rfl
    · exact h.keys e' he
    · exact h.keys e hm
  · rcases List.mem_or_eq_of_mem_set he with he | rfl
    · exact h.below e' he
    · exact h.below e hm

theorem IsMap.update_old (law : KeyTy P K ok) (ht : P.underlying t = some (.map K E)) (h : IsMap ok w b es n) {i : Nat} {e : MapEntry} (hi : es[i]? = some e) (v : Value) :
    (Instr.mapUpdate t (.map (some b)) e.key v).run P w = .ok () (setO w b (.map (es.set i { e with val := v }).toArray n)) := by
  have hl := h.keys e (List.mem_of_getElem? hi)
  unfold Instr.mapUpdate
  rw [Sem.run_bind, run_underlying ht]
  have hs := law.stays w hl
  have hm : es.modify i (fun e' => { e' with key := e.key, val := v }) = (es.set i { e with val := v }) := by
    apply List.ext_getElem?
    intro j
    rw [List.getElem?_modify, List.getElem?_set]
    split
    · rename_i hj
      subst hj
      rw [if_pos (List.getElem?_eq_some_iff.1 hi).1, hi]
      rfl
    · cases es[j]? <;> rfl
  simp [MapKept.run_getObj_map h.obj, law.check w _ hl, h.found law hi, hi, hs, hm, MapKept.run_setObj_map _ h.obj, setO]

theorem IsMap.erase (h : IsMap ok w b es n) (i : Nat) : IsMap ok (setO w b (.map (es.eraseIdx i).toArray n)) b (es.eraseIdx i) n := by
  have hsub : (es.eraseIdx i).Sublist es := List.eraseIdx_sublist _ _
  exact ⟨setO_get h.obj, fun e he => h.keys e (hsub.subset he), h.nodup.sublist (hsub.map _), h.born.sublist (hsub.map _), fun e he => h.below e (hsub.subset he)⟩
theorem IsMap.delete_some (law : KeyTy P K ok) (ht : P.underlying t = some (.map K E)) (h : IsMap ok w b es n) {i : Nat} {e : MapEntry} (hi : es[i]? = some e) (t' ty : TypeId) :
    (Builtin.delete_ #[t, t'] ty #[.map (some b), e.key]).run P w = .ok (.tuple #[]) (setO w b (.map (es.eraseIdx i).toArray n)) := by
  have hl := h.keys e (List.mem_of_getElem? hi)
  unfold Builtin.delete_
  simp [run_underlying ht, MapKept.run_getObj_map h.obj, law.check w _ hl, h.found law hi, MapKept.run_setObj_map _ h.obj, setO]
theorem IsMap.delete_none (law : KeyTy P K ok) (ht : P.underlying t = some (.map K E)) (h : IsMap ok w b es n) {x : Value} (hx : ok x) (hno : ∀ e ∈ es, e.key ≠ x) (t' ty : TypeId) :
    (Builtin.delete_ #[t, t'] ty #[.map (some b), x]).run P w = .ok (.tuple #[]) (setO w b (.map es.toArray n)) := by
  unfold Builtin.delete_
  simp [run_underlying ht, MapKept.run_getObj_map h.obj, law.check w _ hx, h.lacks law hx hno, MapKept.run_setObj_map _ h.obj, setO]

/-! ### ranging -/
theorem IsMap.range (ht : P.underlying t = some (.map K E)) (h : IsMap ok w b es n) :
    (Instr.range t (.map (some b))).run P w = .ok (.pointer (some ⟨w.heap.size, 0, none⟩)) (w.alloc (.mapIter (some b) n #[] n)) := by
  unfold Instr.range
  rw [Sem.run_bind, run_underlying ht]
  simp [MapKept.run_getObj_map h.obj, newObj, Sem.run, Result.andThen]

/-- Block r is an iterator over the map in block b (with the clock n) that has met the entries 'done'. -/
structure IsIt (w : World) (r b n : Nat) (es done : List MapEntry) : Prop where
  nodup : (done.map (·.born)).Nodup
  sub : ∀ e ∈ done, e ∈ es
  obj : w.heap[r]? = some (.mapIter (some b) n (done.map (·.born)).toArray n)
theorem IsIt.kept {r : Nat} {done : List MapEntry} {M : List Nat} (h : IsIt w r b n es done) (k : Kept M w w') (hn : r ∉ M) : IsIt w' r b n es done := ⟨h.nodup, h.sub, k.get h.obj hn⟩

theorem nodup_of_map {α β : Type} (f : α → β) {l : List α} (h : (l.map f).Nodup) : l.Nodup := by
  unfold List.Nodup at h ⊢
  rw [List.pairwise_map] at h
  exact h.imp (fun h e => h (by rw [e]))
theorem nodup_le {α : Type} : ∀ {l m : List α}, l.Nodup → (∀ x ∈ l, x ∈ m) → l.length ≤ m.length
  | [], _, _, _ => by simp
  | x :: l, m, h, hs => by
    obtain ⟨hx, hl⟩ := List.nodup_cons.1 h
    obtain ⟨m1, m2, rfl⟩ := List.append_of_mem (hs x (by simp))
    have := nodup_le (l := l) (m := m1 ++ m2) hl (fun y hy => by
      have h1 := hs y (by simp [hy])
      simp only [List.mem_append, List.mem_cons] at h1 ⊢
      rcases h1 with h1 | rfl | h1
      · exact .inl h1
      · exact absurd hy hx
      · exact .inr h1)
    simp only [List.length_append, List.length_cons] at this ⊢
    omega

theorem born_inj (h : (es.map (·.born)).Nodup) {e e' : MapEntry} (he : e ∈ es) (he' : e' ∈ es) (hb : e.born = e'.born) : e = e' := by
  obtain ⟨i, hi⟩ := List.getElem?_of_mem he
  obtain ⟨j, hj⟩ := List.getElem?_of_mem he'
  have : i = j := nodup_get h (x := e.born) (by simp [hi]) (by simp [hj, hb])
  subst this
  rw [hi] at hj
  exact Option.some.inj hj

theorem find_born (h : (es.map (·.born)).Nodup) {e : MapEntry} (he : e ∈ es) : es.find? (fun x => x.born == e.born) = some e := by
  cases hf : es.find? (fun x => x.born == e.born) with
  | none =>
    have := List.find?_eq_none.1 hf e he
    simp at this
  | some x =>
    have hx := List.mem_of_find?_eq_some hf
    have hb : (x.born == e.born) = true := List.find?_some (p := fun x : MapEntry => x.born == e.born) hf
    rw [born_inj h hx he (by simpa using hb)]

theorem IsMap.next (ty : TypeId) {r : Nat} {done : List MapEntry} (h : IsMap ok w b es n) (hi : IsIt w r b n es done) :
    ((∀ e ∈ es, e ∈ done) ∧ (Instr.next (.pointer (some ⟨r, 0, none⟩)) false ty).run P w = .ok (.tuple #[.bool false]) w) ∨
    (∃ e w', e ∈ es ∧ e ∉ done ∧ (Instr.next (.pointer (some ⟨r, 0, none⟩)) false ty).run P w = .ok (.tuple #[.bool true, e.key, e.val]) w' ∧
      IsIt w' r b n es (done ++ [e]) ∧ Kept [r] w w' ∧ w'.heap.size = w.heap.size ∧
      (r ≠ b → (Instr.entry (.pointer (some ⟨r, 0, none⟩))).run P w' = .ok (.tuple #[e.key, e.val]) w')) := by
  obtain ⟨hn, hsub, hr⟩ := hi
  have hg : (getObj b).run P w = .ok (.map es.toArray n) w := by simp [getObj, Sem.run, h.obj]
  have hgr : (getObj r).run P w = .ok (.mapIter (some b) n (done.map (·.born)).toArray n) w := by simp [getObj, Sem.run, hr]
  have hall : (!(done.map (·.born)).toArray.isEmpty && !es.toArray.isEmpty && es.toArray.all (fun e => decide (e.born ≥ n))) = false := by
    cases es with
    | nil => simp
    | cons y l =>
      have := h.below y (by simp)
      simp
      omega
  obtain ⟨L, hL⟩ : ∃ L, L = es.filter (fun e => !(done.map (·.born)).toArray.contains e.born) := ⟨_, rfl⟩
  have hLes : ∀ e ∈ L, e ∈ es ∧ e ∉ done := fun e he => by
    rw [hL] at he
    obtain ⟨h1, h2⟩ := List.mem_filter.1 he
    exact ⟨h1, fun hd => by simp at h2; exact h2 e hd rfl⟩
  have hold : L.filter (fun e => decide (e.born < n)) = L := by
    rw [List.filter_eq_self]
    intro e he
    have := h.below e (hLes e he).1
    simpa using this
  have hnew : L.filter (fun e => decide (e.born ≥ n)) = [] := by
    rw [List.filter_eq_nil_iff]
    intro e he
    have := h.below e (hLes e he).1
    simpa using this
  have hrun : (Instr.next (.pointer (some ⟨r, 0, none⟩)) false ty).run P w = ((choose (.mapNext ((if L.isEmpty then #[none] else #[]) ++ (L.map some).toArray).size)).run P w).andThen fun c w1 =>
      (match ((if L.isEmpty then #[none] else #[]) ++ (L.map some).toArray)[c]? with
        | some (some e) => do
          Go.setObj r (.mapIter (some b) n ((done.map (·.born)).toArray.push e.born) n)
          pure (.tuple #[.bool true, e.key, e.val])
        | some none => pure (.tuple #[.bool false])
        | none => stuck "Next: no such candidate" : Sem Value).run P w1 := by
    unfold Instr.next
    simp only []
    rw [Sem.run_bind, hgr]
    simp only [Result.andThen_ok]
    rw [Sem.run_bind, hg]
    simp only [Result.andThen_ok, hall, Bool.false_eq_true, if_false]
    rw [List.filter_toArray, List.filter_toArray, List.filter_toArray, ← hL, hold, hnew]
    simp only [Array.append_empty, List.isEmpty_toArray, List.map_toArray]
    rw [Sem.run_bind]
    rfl
  by_cases hLe : L = []
  · left
    refine ⟨fun e he => ?_, ?_⟩
    · have hf := (List.filter_eq_nil_iff.1 (hL.symm.trans hLe)) e he
      simp at hf
      obtain ⟨e', he', hb⟩ := hf
      rw [← born_inj h.born (hsub e' he') he hb]
      exact he'
    · rw [hrun]
      subst hLe
      simp [choose, Sem.run, Question.forced, Result.andThen]
  · right
    have hLe' : L.isEmpty = false := by simpa using hLe
    have fin : ∀ (c : Nat) (w1 : World), c < L.length → w1.heap = w.heap → Kept [r] w w1 → ∃ e w', e ∈ es ∧ e ∉ done ∧
        ((match ((if L.isEmpty then #[none] else #[]) ++ (L.map some).toArray)[c]? with
        | some (some e) => do
          Go.setObj r (.mapIter (some b) n ((done.map (·.born)).toArray.push e.born) n)
          pure (.tuple #[.bool true, e.key, e.val])
        | some none => pure (.tuple #[.bool false])
        | none => stuck "Next: no such candidate" : Sem Value).run P w1) = .ok (.tuple #[.bool true, e.key, e.val]) w' ∧
        IsIt w' r b n es (done ++ [e]) ∧ Kept [r] w w' ∧ w'.heap.size = w.heap.size ∧
        (r ≠ b → (Instr.entry (.pointer (some ⟨r, 0, none⟩))).run P w' = .ok (.tuple #[e.key, e.val]) w') := by
      intro c w1 hc hh hk
      obtain ⟨e, he0⟩ : ∃ e, L[c]? = some e := ⟨L[c], by simp⟩
      obtain ⟨hes, hnd⟩ := hLes e (List.mem_of_getElem? he0)
      have hcand : ((if L.isEmpty then #[none] else #[]) ++ (L.map some).toArray)[c]? = some (some e) := by simp [hLe', he0]
      have hr1 : w1.heap[r]? = some (.mapIter (some b) n (done.map (·.born)).toArray n) := by rw [hh]; exact hr
      have hr2 : (setO w1 r (.mapIter (some b) n ((done ++ [e]).map (·.born)).toArray n)).heap[r]? = some (.mapIter (some b) n ((done ++ [e]).map (·.born)).toArray n) := by
        simp [setO, (Array.getElem?_eq_some_iff.1 hr1).1]
      refine ⟨e, setO w1 r (.mapIter (some b) n ((done ++ [e]).map (·.born)).toArray n), hes, hnd, ?_, ⟨?_, ?_, hr2⟩, hk.setO (.inl (by simp)) _, by simp [setO, hh], fun hne => ?_⟩
      · rw [hcand]
        simp [Go.setObj, Sem.run, hr1, setO]
      · rw [List.map_append, List.nodup_append]
        refine ⟨hn, by simp, fun a ha c hc => ?_⟩
        simp at hc
        subst hc
        rintro rfl
        obtain ⟨e', he', hb⟩ := List.mem_map.1 ha
        rw [born_inj h.born (hsub e' he') hes hb] at he'
        exact hnd he'
      · intro j hj
        rcases List.mem_append.1 hj with hj | hj
        · exact hsub j hj
        · simp at hj; subst hj; exact hes
      · have hb2 : (setO w1 r (.mapIter (some b) n ((done ++ [e]).map (·.born)).toArray n)).heap[b]? = some (.map es.toArray n) := by
          simp [setO, hne, hh, h.obj]
        unfold Instr.entry
        simp only []
        rw [Sem.run_bind]
        simp only [getObj, Sem.run, hr2, Result.andThen_ok]
        rw [show ((done ++ [e]).map (·.born)).toArray.back? = some e.born by simp]
        simp only []
        rw [Sem.run_bind]
        simp only [Sem.run, hb2, Result.andThen_ok]
        simp [find_born h.born hes]
    by_cases h1 : L.length ≤ 1
    · obtain ⟨i, w', g1, g2, g3, g4⟩ := fin 0 w (by have := List.length_pos_iff.2 hLe; omega) rfl (Kept.refl _ _)
      refine ⟨i, w', g1, g2, ?_, g4⟩
      rw [hrun, ← g3]
      simp [choose, Sem.run, Question.forced, Result.andThen, hLe', h1]
    · obtain ⟨i, w', g1, g2, g3, g4⟩ := fin ((Question.mapNext L.length).cut (w.tape w.drawn (.mapNext L.length))) w.drew (by simp only [Question.cut]; exact Nat.mod_lt _ (by omega)) rfl ((Kept.refl _ _).drew)
      refine ⟨i, w', g1, g2, ?_, g4⟩
      rw [hrun, ← g3]
      have : ¬ L.length ≤ 1 := h1
      simp [choose, Sem.run, Question.forced, Result.andThen, hLe', this]

/-- What an iterator that is through has met: all of it, once. -/
theorem IsIt.perm {r : Nat} {done : List MapEntry} (h : IsMap ok w b es n) (hi : IsIt w r b n es done) (ha : ∀ e ∈ es, e ∈ done) : done.Perm es := by
  have h1 : done.Nodup := nodup_of_map (·.born) hi.nodup
  have h2 : es.Nodup := nodup_of_map (·.born) h.born
  rw [List.perm_ext_iff_of_nodup h1 h2]
  exact fun e => ⟨hi.sub e, ha e⟩
theorem IsIt.less {r : Nat} {done : List MapEntry} (hi : IsIt w r b n es done) : done.length ≤ es.length := by
  have h1 : done.Nodup := nodup_of_map (·.born) hi.nodup
  exact nodup_le h1 (fun e he => hi.sub e he)
end

/-! ### at the operations, for the walk -/
section
variable {P : Program} {w : World} {ops : Array Oper} {rest : List Oper} {o : Oper} {a : Act} {Q : Exit → Act → World → Prop} {K E t : TypeId} {ok : Value → Prop} {b n : Nat} {es : List MapEntry}

theorem wpList_gmap_new (hg : o.guard = none) (m k v : Operand) (hop : o.op = .mapUpdate t m k v ∨ o.op = .insert t m k v) (law : KeyTy P K ok) (ht : P.underlying t = some (.map K E))
    (x y : Value) (hm : a.eval m = .map (some b)) (hx : a.eval k = x) (hv : a.eval v = y) (h : IsMap ok w b es n) (hk : ok x) (hno : ∀ e ∈ es, e.key ≠ x)
    (hN : ∀ w', IsMap ok w' b (es ++ [({ key := x, val := y, born := n } : MapEntry)]) (n + 1) → Kept [b] w w' → w.heap.size ≤ w'.heap.size → wpList P ops Q rest (a.put o.dst undef) w') : wpList P ops Q (o :: rest) a w := by
  refine wpList_plain hg fun K' hK' => ?_
  have hr := h.update_new law ht (v := y) hk hno
  unfold Oper.wp execOp
  rcases hop with hop | hop <;>
  · simp only [hop, hm, hx, hv, Sem.run_bind, hr, Result.andThen_ok]
    exact hK' _ _ (hN _ (h.snoc hk hno) ((Kept.refl _ _).setO (.inl (by simp)) _) (by simp [setO]))
theorem wpList_gmap_old (hg : o.guard = none) (m k v : Operand) (hop : o.op = .mapUpdate t m k v ∨ o.op = .insert t m k v) (law : KeyTy P K ok) (ht : P.underlying t = some (.map K E))
    (i : Nat) (e : MapEntry) (y : Value) (hm : a.eval m = .map (some b)) (hx : a.eval k = e.key) (hv : a.eval v = y) (h : IsMap ok w b es n) (hi : es[i]? = some e)
    (hN : ∀ w', IsMap ok w' b (es.set i { e with val := y }) n → Kept [b] w w' → w.heap.size ≤ w'.heap.size → wpList P ops Q rest (a.put o.dst undef) w') : wpList P ops Q (o :: rest) a w := by
  refine wpList_plain hg fun K' hK' => ?_
  have hr := h.update_old law ht hi y
  unfold Oper.wp execOp
  rcases hop with hop | hop <;>
  · simp only [hop, hm, hx, hv, Sem.run_bind, hr, Result.andThen_ok]
    exact hK' _ _ (hN _ (h.set hi y) ((Kept.refl _ _).setO (.inl (by simp)) _) (by simp [setO]))
theorem wpList_gmap_range (hg : o.guard = none) (m : Operand) (hop : o.op = .range t m) (ht : P.underlying t = some (.map K E)) (hm : a.eval m = .map (some b)) (h : IsMap ok w b es n)
    (hN : ∀ w', IsMap ok w' b es n → IsIt w' w.heap.size b n es [] → Kept [] w w' → w.heap.size + 1 ≤ w'.heap.size → wpList P ops Q rest (a.put o.dst (.pointer (some ⟨w.heap.size, 0, none⟩))) w') : wpList P ops Q (o :: rest) a w := by
  refine wpList_plain hg fun K' hK' => ?_
  have hr := h.range ht
  unfold Oper.wp execOp
  simp only [hop, hm, Sem.run_bind, hr, Result.andThen_ok]
  have hk : Kept [] w (w.alloc (.mapIter (some b) n #[] n)) := (Kept.refl _ _).alloc _
  exact hK' _ _ (hN _ (h.kept hk (by simp)) ⟨by simp, by simp, heap_alloc_new w _⟩ hk (by simp))
theorem wpList_gmap_next (hg : o.guard = none) (it : Operand) (hop : o.op = .next it false) (r : Nat) (done : List MapEntry) (hit : a.eval it = .pointer (some ⟨r, 0, none⟩)) (h : IsMap ok w b es n) (hi : IsIt w r b n es done) (hne : r ≠ b)
    (hD : (∀ e ∈ es, e ∈ done) → wpList P ops Q rest (a.put o.dst (.tuple #[.bool false])) w)
    (hM : ∀ e w', e ∈ es → e ∉ done → IsMap ok w' b es n → IsIt w' r b n es (done ++ [e]) → Kept [r] w w' → w.heap.size ≤ w'.heap.size →
      (Instr.entry (.pointer (some ⟨r, 0, none⟩))).run P w' = .ok (.tuple #[e.key, e.val]) w' → wpList P ops Q rest (a.put o.dst (.tuple #[.bool true, e.key, e.val])) w') :
    wpList P ops Q (o :: rest) a w := by
  refine wpList_plain hg fun K' hK' => ?_
  unfold Oper.wp execOp
  rcases h.next (P := P) o.type hi with ⟨h1, h2⟩ | ⟨e, w', h1, h2, h3, h4, h5, h6, h7⟩
  · simp only [hop, hit, Sem.run_bind, h2, Result.andThen_ok]
    exact hK' _ _ (hD h1)
  · simp only [hop, hit, Sem.run_bind, h3, Result.andThen_ok]
    exact hK' _ _ (hM e w' h1 h2 (h.kept h5 (by simpa using Ne.symm hne)) h4 h5 (Nat.le_of_eq h6.symm) (h7 hne))
end
end Go.Proofs.YtkldomkooleecaaGreatDoor
