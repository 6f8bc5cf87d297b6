/- Plain facts for ReclaimSafe: what is freed can be called no more. -/
import Derived.Test.YtkldomkooleecaaCache
import Derived.Test.YtkldomkooleecaaComplete
namespace Go.Proofs.Ytkldomkooleecaa
open Go.RowKit

/-- A compiled code as the cells of its row. -/
def Cp.cc (x : Cp) (e : Value) : Cc := ⟨x.id, x.method, .int .i64 x.ty.kind, .string x.ty.name, .int .i64 x.ty.index, vfst e, x.frm, x.unt, .int .i64 0, .int .i64 0, .slice none 0 0, .slice none 0 0, .slice none 0 0, vsnd e⟩
theorem crows_cc (l : List Cp) (es : List Value) : crows (List.zipWith Cp.cc l es) = List.zipWith Cp.row l es := by
  unfold crows
  rw [List.map_zipWith]
  rfl

/-- A generated code in the cache. -/
def toCp (x : Cc) : Cp := ⟨x.id, x.method, .mk 3 ⟨#[]⟩ 0 [], x.frm, x.unt, []⟩

theorem zip_ids : ∀ (l : List Cp) (es : List Value), es.length = l.length → (List.zipWith Cp.cc l es).map Cc.id = l.map Cp.id
  | [], [], _ => rfl
  | x :: l, e :: es, h => by
    simp only [List.zipWith_cons_cons, List.map_cons]
    rw [zip_ids l es (by simpa using h)]
    rfl
  | [], _ :: _, h => by simp at h
  | _ :: _, [], h => by simp at h
theorem mem_zip {l : List Cp} {es : List Value} {y : Cc} (h : y ∈ List.zipWith Cp.cc l es) : ∃ x ∈ l, ∃ e, y = x.cc e := by
  induction l generalizing es with
  | nil => simp at h
  | cons x l ih =>
    cases es with
    | nil => simp at h
    | cons e es =>
      simp only [List.zipWith_cons_cons, List.mem_cons] at h
      rcases h with rfl | h
      · exact ⟨x, by simp, e, rfl⟩
      · obtain ⟨z, hz, e', rfl⟩ := ih h
        exact ⟨z, by simp [hz], e', rfl⟩

/-- The freed codes: each has ended, runs nowhere, and is valid in no world. -/
structure Dead (act ws : List Int) (l : List Cp) (D : List Int) : Prop where
  asc : Asc D
  each : ∀ n ∈ D, ∃ x ∈ l, x.id = n ∧ x.unt ≠ 0 ∧ x.id ∉ act ∧ ∀ v ∈ ws, v < x.frm ∨ x.unt ≤ v

theorem dead_of (act ws : List Int) (l : List Cp) (es : List Value) (h : es.length = l.length) (ha : Asc (l.map Cp.id)) :
    Dead act ws l ((freed act ws (List.zipWith Cp.cc l es)).foldl ins []) := by
  have h1 : Asc (freed act ws (List.zipWith Cp.cc l es)) := by
    have := List.Pairwise.sublist (freed_sub act ws (List.zipWith Cp.cc l es)) (R := (· < ·))
    rw [zip_ids l es h] at this
    exact this ha
  have h2 : (freed act ws (List.zipWith Cp.cc l es)).foldl ins [] = freed act ws (List.zipWith Cp.cc l es) := by
    have := inss_asc_id (freed act ws (List.zipWith Cp.cc l es)) [] (by simpa using h1)
    simpa using this
  rw [h2]
  refine ⟨h1, fun n hn => ?_⟩
  obtain ⟨y, hy, rfl⟩ := List.mem_map.1 hn
  obtain ⟨hy1, hy2⟩ := List.mem_filter.1 hy
  obtain ⟨x, hx, e, rfl⟩ := mem_zip hy1
  simp only [freeB, Bool.and_eq_true, decide_eq_true_eq, Bool.not_eq_true', decide_eq_false_iff_not, outOf, List.all_eq_true, Bool.or_eq_true] at hy2
  exact ⟨x, hx, rfl, hy2.1.1, hy2.1.2, fun v hv => hy2.2 v hv⟩

/-- Codes that the law may have. -/
def GenP (l : List Cp) : Prop := ∀ (k : Nat) (x : Cp), l[k]? = some x → ∃ m f u, x = toCp (mkc (k + 1) m f u) ∧ 1 ≤ m ∧ m ≤ 3 ∧ 1 ≤ f ∧ f ≤ 6 ∧ (u = 0 ∨ (f < u ∧ u ≤ f + 4))
theorem Gen.cp {cs : List Cc} (h : Gen cs) : GenP (cs.map toCp) := by
  intro k x hx
  simp only [List.getElem?_map, Option.map_eq_some_iff] at hx
  obtain ⟨y, hy, rfl⟩ := hx
  obtain ⟨m, f, u, rfl, h1⟩ := h k y hy
  exact ⟨m, f, u, rfl, h1⟩
theorem GenP.id {l : List Cp} (h : GenP l) {k : Nat} {x : Cp} (hx : l[k]? = some x) : x.id = k + 1 := by
  obtain ⟨m, f, u, rfl, _⟩ := h k x hx
  rfl
theorem GenP.asc {l : List Cp} (h : GenP l) : Asc (l.map Cp.id) := by
  unfold Asc
  rw [List.pairwise_iff_getElem]
  intro i j hi hj hij
  simp only [List.length_map] at hi hj
  have h1 := h.id (List.getElem?_eq_getElem hi)
  have h2 := h.id (List.getElem?_eq_getElem hj)
  simp only [List.getElem_map]
  omega
theorem GenP.inj {l : List Cp} (h : GenP l) {x y : Cp} (hx : x ∈ l) (hy : y ∈ l) (e : x.id = y.id) : x = y := by
  obtain ⟨i, hi⟩ := List.mem_iff_getElem?.1 hx
  obtain ⟨j, hj⟩ := List.mem_iff_getElem?.1 hy
  have h1 := h.id hi
  have h2 := h.id hj
  have : i = j := by omega
  subst this
  rw [hi] at hj
  exact Option.some.inj hj

/-- What is left of the codes after some of the freed ones have been removed. -/
structure Left (l0 : List Cp) (D : List Int) (i : Nat) (l : List Cp) : Prop where
  sub : ∀ x ∈ l, x ∈ l0
  all : ∀ x ∈ l0, x.id ∉ D.take i → x ∈ l
theorem Left.start (l0 : List Cp) (D : List Int) : Left l0 D 0 l0 := ⟨fun _ h => h, fun _ h _ => h⟩
theorem Left.next {l0 l : List Cp} {D : List Int} {i : Nat} {n : Int} {k : Nat} {x : Cp} (h : Left l0 D i l) (hn : D[i]? = some n) (hx : l[k]? = some x) (hid : x.id = n) : Left l0 D (i + 1) (l.take k ++ l.drop (k + 1)) := by
  refine ⟨fun y hy => ?_, fun y hy hne => ?_⟩
  · rcases List.mem_append.1 hy with hy | hy
    · exact h.sub y (List.mem_of_mem_take hy)
    · exact h.sub y (List.mem_of_mem_drop hy)
  · rw [List.take_add_one, hn] at hne
    simp only [Option.toList_some, List.mem_append, List.mem_singleton, not_or] at hne
    obtain ⟨j, hj⟩ := List.mem_iff_getElem?.1 (h.all y hy hne.1)
    have hk : j ≠ k := by
      rintro rfl
      rw [hx] at hj
      cases hj
      exact hne.2 hid
    rw [List.mem_append]
    rcases Nat.lt_or_gt_of_ne hk with h1 | h1
    · left
      exact List.mem_iff_getElem?.2 ⟨j, by rw [List.getElem?_take, if_pos h1]; exact hj⟩
    · right
      exact List.mem_iff_getElem?.2 ⟨j - (k + 1), by rw [List.getElem?_drop, show k + 1 + (j - (k + 1)) = j by omega]; exact hj⟩
/-- The next one is still there, .. -/
theorem Left.has {l0 l : List Cp} {D act ws : List Int} {i : Nat} {n : Int} (h : Left l0 D i l) (hD : Dead act ws l0 D) (hn : D[i]? = some n) : ∃ x ∈ l, x.id = n := by
  obtain ⟨x, hx, hid, _⟩ := hD.each n (List.mem_of_getElem? hn)
  refine ⟨x, h.all x hx ?_, hid⟩
  rw [hid]
  intro hm
  obtain ⟨j, hj⟩ := List.mem_iff_getElem?.1 hm
  rw [List.getElem?_take] at hj
  split at hj
  · rename_i hlt
    have ha := hD.asc
    unfold Asc at ha
    rw [List.pairwise_iff_getElem] at ha
    have h1 := (List.getElem?_eq_some_iff.1 hj)
    have h2 := (List.getElem?_eq_some_iff.1 hn)
    obtain ⟨a1, a2⟩ := h1
    obtain ⟨b1, b2⟩ := h2
    have := ha j i a1 b1 hlt
    omega
  · cases hj
/-- .. and what has its number is dead. -/
theorem Left.dead {l0 l : List Cp} {D act ws : List Int} {i : Nat} {n : Int} (h : Left l0 D i l) (hG : GenP l0) (hD : Dead act ws l0 D) (hn : D[i]? = some n) {y : Cp} (hy : y ∈ l) (hid : y.id = n) : 1 ≤ y.id ∧ y.unt ≠ 0 ∧ y.id ∉ act ∧ ∀ v ∈ ws, v < y.frm ∨ y.unt ≤ v := by
  obtain ⟨x, hx, hid', h1, h2, h3⟩ := hD.each n (List.mem_of_getElem? hn)
  have e : x = y := hG.inj hx (h.sub y hy) (by rw [hid, hid'])
  subst e
  obtain ⟨j, hj⟩ := List.mem_iff_getElem?.1 hx
  have := hG.id hj
  exact ⟨by omega, h1, h2, h3⟩
end Go.Proofs.Ytkldomkooleecaa
