/- Both graphs hold the same nodes: plain. -/
import Derived.Test.YtkldomkooleecaaGreatDoorRAll
import Derived.Test.YtkldomkooleecaaGreatDoorMRef
namespace Go.Proofs.YtkldomkooleecaaGreatDoor
open Go.RowKit Go.Maps Go.MapKept

/-- The two graphs hold the same. -/
structure Sim (last : Nat) (ns : List Nd) (rs : List RN) : Prop where
  len : rs.length = last
  eq : ∀ n : Int, (nodeOf ns n).map (fun x => (x.deps, x.uses)) = (rAt rs n).map (fun x => (x.deps, x.uses))
  clo : Closed ns
  low : Low rs

section
variable {last : Nat} {ns : List Nd} {rs : List RN}
theorem Sim.start : Sim 0 [] [] := ⟨rfl, fun n => by simp [nodeOf, rAt], fun x hx => by simp at hx, fun k x hx => by simp at hx⟩
theorem Sim.has (h : Sim last ns rs) (n : Int) : (nodeOf ns n).isSome = (rAt rs n).isSome := by
  have := congrArg Option.isSome (h.eq n)
  simpa using this
theorem Sim.deps (h : Sim last ns rs) (n : Int) : depsOf ns n = rDeps rs n := by
  have := h.eq n
  unfold depsOf rDeps
  cases hx : nodeOf ns n <;> cases hy : rAt rs n <;> simp [hx, hy] at this ⊢
  exact this.1
theorem Sim.uses (h : Sim last ns rs) (n : Int) : usesOf ns n = rUses rs n := by
  have := h.eq n
  unfold usesOf rUses
  cases hx : nodeOf ns n <;> cases hy : rAt rs n <;> simp [hx, hy] at this ⊢
  exact this.2
theorem edge_mem (hp : ns.Pairwise (fun x y => x.num < y.num)) (m n : Int) : edgeB ns m n = true ↔ n ∈ usesOf ns m := by
  unfold edgeB
  rw [List.any_eq_true]
  constructor
  · rintro ⟨x, hx, hb⟩
    simp only [Bool.and_eq_true, beq_iff_eq, List.contains_iff_mem] at hb
    unfold usesOf
    rw [← hb.1, nodeOf_mem hp hx]
    exact hb.2
  · intro h
    unfold usesOf at h
    cases hx : nodeOf ns m with
    | none => rw [hx] at h; simp at h
    | some x =>
      rw [hx] at h
      obtain ⟨h1, h2⟩ := nodeOf_some hx
      exact ⟨x, h1, by simp only [Bool.and_eq_true, beq_iff_eq, List.contains_iff_mem]; exact ⟨h2, h⟩⟩
theorem num_of_uses {m n : Int} (h : n ∈ usesOf ns m) : ∃ x ∈ ns, x.num = m := by
  unfold usesOf at h
  cases hx : nodeOf ns m with
  | none => rw [hx] at h; simp at h
  | some x => exact ⟨x, (nodeOf_some hx).1, (nodeOf_some hx).2⟩
theorem usedBy_mem (hp : ns.Pairwise (fun x y => x.num < y.num)) (m n : Int) : m ∈ usedBy ns n ↔ n ∈ usesOf ns m := by
  unfold usedBy
  rw [List.mem_filter, List.mem_map, edge_mem hp]
  exact ⟨fun h => h.2, fun h => ⟨num_of_uses h, h⟩⟩
theorem uses1_iff (n : Int) (i : Nat) : uses1 rs n i = true ↔ n ∈ rUses rs ((i : Int) + 1) := by
  unfold uses1 rUses
  cases rAt rs ((i : Int) + 1) <;> simp
theorem usedR_mem (m n : Int) (k : Nat) : m ∈ usedR rs n k ↔ ∃ i : Nat, i < k ∧ (i : Int) + 1 = m ∧ n ∈ rUses rs m := by
  unfold usedR
  rw [List.mem_map]
  constructor
  · rintro ⟨i, hi, rfl⟩
    obtain ⟨h1, h2⟩ := List.mem_filter.1 hi
    exact ⟨i, List.mem_range.1 h1, rfl, (uses1_iff n i).1 h2⟩
  · rintro ⟨i, h1, rfl, h2⟩
    exact ⟨i, List.mem_filter.2 ⟨List.mem_range.2 h1, (uses1_iff n i).2 h2⟩, rfl⟩
theorem range_asc (p : Nat → Bool) (k : Nat) : Asc (((List.range k).filter p).map fun i : Nat => (i : Int) + 1) := by
  unfold Asc
  rw [List.pairwise_map]
  exact (List.pairwise_lt_range.filter p).imp fun h => by omega
theorem nums_ascF (hp : ns.Pairwise (fun x y => x.num < y.num)) (p : Int → Bool) : Asc ((ns.map Nd.num).filter p) := by
  unfold Asc
  refine List.Pairwise.filter p ?_
  rw [List.pairwise_map]
  exact hp
theorem rUses_at {m n : Int} (h : n ∈ rUses rs m) : ∃ k : Nat, (k : Int) + 1 = m ∧ k < rs.length := by
  unfold rUses at h
  cases hx : rAt rs m with
  | none => rw [hx] at h; simp at h
  | some x => obtain ⟨k, h1, h2, _⟩ := rAt_some hx; exact ⟨k, h1.symm, h2⟩
theorem Sim.dept (h : Sim last ns rs) (hp : ns.Pairwise (fun x y => x.num < y.num)) (n : Int) : usedBy ns n = rDept rs n := by
  unfold rDept
  split
  · refine asc_ext _ _ (nums_ascF hp _) (range_asc _ _) fun m => ?_
    rw [usedBy_mem hp, usedR_mem, h.uses]
    exact ⟨fun hm => by obtain ⟨k, h1, h2⟩ := rUses_at hm; exact ⟨k, h2, h1, hm⟩, fun ⟨_, _, _, hm⟩ => hm⟩
  · rename_i hx
    rw [List.eq_nil_iff_forall_not_mem]
    intro m hm
    have hu := (usedBy_mem hp m n).1 hm
    unfold usesOf at hu
    cases hy : nodeOf ns m with
    | none => rw [hy] at hu; simp at hu
    | some y =>
      rw [hy] at hu
      have h2 := (h.clo y (nodeOf_some hy).1 n hu).2
      rw [← h.has n] at hx
      cases hz : nodeOf ns n with
      | none => exact h2 hz
      | some z => rw [hz] at hx; simp at hx
theorem by1_iff (f : ByteArray) (i : Nat) : by1 rs f i = (rDeps rs ((i : Int) + 1)).any (onFn f) := by
  unfold by1 rDeps
  cases rAt rs ((i : Int) + 1) <;> simp
theorem any_at {m : Int} {p : Dp → Bool} (h : (rDeps rs m).any p = true) : ∃ k : Nat, (k : Int) + 1 = m ∧ k < rs.length := by
  unfold rDeps at h
  cases hx : rAt rs m with
  | none => rw [hx] at h; simp at h
  | some x => obtain ⟨k, h1, h2, _⟩ := rAt_some hx; exact ⟨k, h1.symm, h2⟩
theorem any_num {m : Int} {p : Dp → Bool} (h : (depsOf ns m).any p = true) : ∃ x ∈ ns, x.num = m := by
  unfold depsOf at h
  cases hx : nodeOf ns m with
  | none => rw [hx] at h; simp at h
  | some x => exact ⟨x, (nodeOf_some hx).1, (nodeOf_some hx).2⟩
theorem Sim.byFn (h : Sim last ns rs) (hp : ns.Pairwise (fun x y => x.num < y.num)) (f : ByteArray) : Go.Proofs.YtkldomkooleecaaGreatDoor.byFn ns f = byR rs f rs.length := by
  refine asc_ext _ _ (nums_ascF hp _) (range_asc _ _) fun m => ?_
  unfold Go.Proofs.YtkldomkooleecaaGreatDoor.byFn byR
  rw [List.mem_filter, List.mem_map, List.mem_map]
  constructor
  · rintro ⟨_, h2⟩
    rw [h.deps] at h2
    obtain ⟨k, rfl, hk⟩ := any_at h2
    exact ⟨k, List.mem_filter.2 ⟨List.mem_range.2 hk, by rw [by1_iff]; exact h2⟩, rfl⟩
  · rintro ⟨k, hk, rfl⟩
    have h2 := (List.mem_filter.1 hk).2
    rw [by1_iff, ← h.deps] at h2
    exact ⟨any_num h2, h2⟩

theorem table_get (rs : List RN) (i : Nat) : ∀ K, i < K → (tableR rs K).getD i [] = (tableR rs (i + 1)).getD i []
  | 0, h => by omega
  | K + 1, h => by
    rcases Nat.lt_or_eq_of_le (Nat.le_of_lt_succ h) with h1 | rfl
    · rw [tableR, getD_snoc_lt (by rw [tableR_len]; exact h1)]
      exact table_get rs i K h1
    · rfl
theorem one_le {u : Int} (hr : ∀ x ∈ ns, 1 ≤ x.num ∧ x.num ≤ (last : Int)) (h : nodeOf ns u ≠ none) : 1 ≤ u ∧ u ≤ last := by
  cases hy : nodeOf ns u with
  | none => exact absurd hy h
  | some y =>
    obtain ⟨q1, q2⟩ := nodeOf_some hy
    have := hr y q1
    omega
theorem Sim.table (h : Sim last ns rs) (hr : ∀ x ∈ ns, 1 ≤ x.num ∧ x.num ≤ (last : Int)) (k : Nat) : nodeOf ns ((k : Int) + 1) ≠ none → (tableR rs (k + 1)).getD k [] = allD ns ((k : Int) + 1) := by
  induction k using Nat.strongRecOn with
  | ind k ih =>
    intro hn
    have he := h.eq ((k : Int) + 1)
    cases hx : nodeOf ns ((k : Int) + 1) with
    | none => exact absurd hx hn
    | some x =>
      cases hy : rAt rs ((k : Int) + 1) with
      | none => rw [hx, hy] at he; simp at he
      | some y =>
        rw [hx, hy] at he
        simp only [Option.map_some, Option.some.injEq, Prod.mk.injEq] at he
        obtain ⟨k', h1, h2, h3, h4⟩ := rAt_some hy
        obtain rfl : k' = k := by omega
        rw [tableR_at h3 h4]
        have := getD_snoc_at (l := tableR rs k') (x := rowR rs k' y)
        rw [tableR_len] at this
        rw [this, rowR, mergeR_is, allD_eq h.clo hr hx, he.1, he.2]
        congr 3
        apply List.map_congr_left
        intro u hu
        obtain ⟨q1, q2⟩ := h.clo x (nodeOf_some hx).1 u (by rw [he.2]; exact hu)
        rw [(nodeOf_some hx).2] at q1
        have q3 := one_le hr q2
        obtain ⟨j, rfl⟩ : ∃ j : Nat, u = (j : Int) + 1 := ⟨(u - 1).toNat, by omega⟩
        rw [show ((j : Int) + 1 - 1).toNat = j by omega, table_get rs j k' (by omega)]
        exact ih j (by omega) q2
theorem Sim.all (h : Sim last ns rs) (hr : ∀ x ∈ ns, 1 ≤ x.num ∧ x.num ≤ (last : Int)) (n : Int) : allDeps ns n = rAll rs n := by
  have he := h.has n
  unfold allDeps rAll
  cases hx : nodeOf ns n with
  | none => rw [hx] at he; cases hy : rAt rs n with
    | none => rfl
    | some y => rw [hy] at he; simp at he
  | some x =>
    rw [hx] at he
    cases hy : rAt rs n with
    | none => rw [hy] at he; simp at he
    | some y =>
      obtain ⟨k, rfl, _⟩ := rAt_some hy
      simp only
      rw [show ((k : Int) + 1).toNat = k + 1 by omega, show ((k : Int) + 1 - 1).toNat = k by omega]
      exact (h.table hr k (by rw [hx]; simp)).symm

theorem node_app (n : Int) (x : Nd) (h : x.num ≠ n) : nodeOf (ns ++ [x]) n = nodeOf ns n := by
  unfold nodeOf
  rw [List.find?_append]
  cases List.find? (fun x => x.num == n) ns with
  | some y => rfl
  | none => simp [h]
theorem node_new (x : Nd) (h : nodeOf ns x.num = none) : nodeOf (ns ++ [x]) x.num = some x := by
  unfold nodeOf at h ⊢
  rw [List.find?_append, h]
  simp
theorem rAt_app (n : Int) (y : RN) (h : n ≠ (rs.length : Int) + 1) : rAt (rs ++ [y]) n = rAt rs n := by
  unfold rAt
  split
  · rcases Nat.lt_or_ge (n - 1).toNat rs.length with hl | hl
    · rw [List.getElem?_append_left hl]
    · rw [List.getElem?_append_right hl, List.getElem?_eq_none hl, List.getElem?_eq_none (by simp; omega)]
  · rfl
theorem rAt_new (y : RN) (h : y.there = true) : rAt (rs ++ [y]) ((rs.length : Int) + 1) = some y := by
  rw [rAt_at (k := rs.length) (x := y) (by simp), if_pos h]
theorem Sim.add (h : Sim last ns rs) (hr : ∀ x ∈ ns, 1 ≤ x.num ∧ x.num ≤ (last : Int)) {ds : List Dp} {us : List Int} (hu : ∀ u ∈ us, nodeOf ns u ≠ none) (dv uv : Value) (born : Nat) :
    Sim (last + 1) (ns ++ [⟨((last + 1 : Nat) : Int), ds, asc us, dv, uv, born⟩]) (rs ++ [⟨true, ds, asc us⟩]) := by
  have hnew : nodeOf ns ((last + 1 : Nat) : Int) = none := by
    cases hx : nodeOf ns ((last + 1 : Nat) : Int) with
    | none => rfl
    | some x =>
      obtain ⟨q1, q2⟩ := nodeOf_some hx
      have := (hr x q1).2
      omega
  have hne : ∀ {n : Int} (x : Nd), nodeOf ns n ≠ none → nodeOf (ns ++ [x]) n ≠ none := by
    intro n x hn
    unfold nodeOf at hn ⊢
    rw [List.find?_append]
    cases hq : List.find? (fun x => x.num == n) ns with
    | none => exact absurd hq hn
    | some y => simp
  refine ⟨by simp [h.len], fun n => ?_, fun x hx u hux => ?_, fun k x hx u hux => ?_⟩
  · by_cases hn : n = ((last + 1 : Nat) : Int)
    · subst hn
      have e1 := node_new (ns := ns) ⟨((last + 1 : Nat) : Int), ds, asc us, dv, uv, born⟩ hnew
      have e2 := rAt_new (rs := rs) ⟨true, ds, asc us⟩ rfl
      rw [h.len] at e2
      rw [e1, show ((last + 1 : Nat) : Int) = (last : Int) + 1 by omega, e2]
      rfl
    · rw [node_app n _ (Ne.symm hn), rAt_app n _ (by rw [h.len]; omega)]
      exact h.eq n
  · rcases List.mem_append.1 hx with hx | hx
    · obtain ⟨q1, q2⟩ := h.clo x hx u hux
      exact ⟨q1, hne _ q2⟩
    · rw [List.mem_singleton] at hx
      subst hx
      have q := hu u ((asc_mem us u).1 hux)
      have := one_le hr q
      exact ⟨by show u < ((last + 1 : Nat) : Int); omega, hne _ q⟩
  · rcases Nat.lt_or_ge k rs.length with hl | hl
    · rw [List.getElem?_append_left hl] at hx
      exact h.low k x hx u hux
    · have hk : k = rs.length := by
        have := (List.getElem?_eq_some_iff.1 hx).1
        simp at this
        omega
      subst hk
      simp at hx
      subst hx
      have := one_le hr (hu u ((asc_mem us u).1 hux))
      have := h.len
      omega
theorem node_without (n m : Int) (h : m ≠ n) : nodeOf (without ns n) m = nodeOf ns m := by
  unfold nodeOf without
  rw [List.find?_filter]
  congr 1
  funext x
  by_cases hx : x.num = m
  · simp [hx, h]
  · simp [hx]
theorem node_gone (n : Int) : nodeOf (without ns n) n = none := by
  unfold nodeOf without
  rw [List.find?_filter, List.find?_eq_none]
  intro x _
  simp
theorem rAt_out (m : Int) {k : Nat} {x : RN} (h : m ≠ (k : Int) + 1) : rAt (outR rs k x) m = rAt rs m := by
  unfold rAt outR
  split
  · rw [List.getElem?_set_ne (by omega)]
  · rfl
theorem rAt_gone {k : Nat} {x : RN} (h : k < rs.length) : rAt (outR rs k x) ((k : Int) + 1) = none := by
  rw [rAt_at (k := k) (x := { x with there := false }) (by unfold outR; simp [h])]
  rfl
theorem Sim.rem (h : Sim last ns rs) (hp : ns.Pairwise (fun x y => x.num < y.num)) {k : Nat} {x : RN} (hx : rs[k]? = some x) (hu : usedBy ns ((k : Int) + 1) = []) : Sim last (without ns ((k : Int) + 1)) (outR rs k x) := by
  have hlt := (List.getElem?_eq_some_iff.1 hx).1
  refine ⟨by unfold outR; rw [List.length_set]; exact h.len, fun n => ?_, fun y hy u hyu => ?_, fun i y hy u hyu => ?_⟩
  · by_cases hn : n = (k : Int) + 1
    · subst hn
      rw [node_gone, rAt_gone hlt]
      rfl
    · rw [node_without _ _ hn, rAt_out _ hn]
      exact h.eq n
  · have hym : y ∈ ns := List.filter_sublist.subset hy
    obtain ⟨q1, q2⟩ := h.clo y hym u hyu
    refine ⟨q1, ?_⟩
    rw [node_without]
    · exact q2
    · rintro rfl
      have : y.num ∈ usedBy ns ((k : Int) + 1) := (usedBy_mem hp _ _).2 (by unfold usesOf; rw [nodeOf_mem hp hym]; exact hyu)
      rw [hu] at this
      simp at this
  · unfold outR at hy
    rw [List.getElem?_set] at hy
    split at hy
    · rename_i hki
      subst hki
      cases hy
      exact h.low k x hx u hyu
    · exact h.low i y hy u hyu
end
end Go.Proofs.YtkldomkooleecaaGreatDoor
