/- The law GraphClosure: plain facts. -/
import Derived.Test.YtkldomkooleecaaGreatDoorBuilt
namespace Go.Proofs.YtkldomkooleecaaGreatDoor
open Go.RowKit Go.Maps Go.MapKept

theorem nine_det {y z : Dp} (hy : y ∈ nine) (hz : z ∈ nine) (h : SameQ y z) : y = z := by
  obtain ⟨f, _, h1⟩ := List.mem_flatMap.1 hy
  obtain ⟨s, _, rfl⟩ := List.mem_map.1 h1
  obtain ⟨g, _, h2⟩ := List.mem_flatMap.1 hz
  obtain ⟨t, _, rfl⟩ := List.mem_map.1 h2
  obtain ⟨e1, e2⟩ := h
  simp only [dpN] at e1 e2 ⊢
  rw [e1, e2]
theorem SameQ.rfl' (x : Dp) : SameQ x x := ⟨rfl, rfl⟩
theorem uqD_cov (l : List Dp) : ∀ y ∈ l, ∃ z ∈ uqD l, SameQ z y := by
  have key : ∀ (l acc : List Dp) (y : Dp), ((∃ z ∈ acc, SameQ z y) ∨ y ∈ l) → ∃ z ∈ l.foldl addQ acc, SameQ z y := by
    intro l
    induction l with
    | nil =>
      intro acc y h
      rcases h with h | h
      · exact h
      · simp at h
    | cons x l ih =>
      intro acc y h
      refine ih _ y ?_
      have hk : ∀ z ∈ acc, z ∈ addQ acc x := fun z hz => by
        unfold addQ
        split
        · exact hz
        · simp [hz]
      rcases h with ⟨z, hz, hs⟩ | h
      · exact .inl ⟨z, hk z hz, hs⟩
      · rcases List.mem_cons.1 h with rfl | h
        · left
          by_cases hx : ∃ z ∈ acc, z.fn = y.fn ∧ z.ty = y.ty
          · obtain ⟨z, hz, hs⟩ := hx
            exact ⟨z, hk z hz, hs⟩
          · rw [addQ_out hx]
            exact ⟨y, by simp, SameQ.rfl' y⟩
        · exact .inr h
  intro y hy
  exact key l [] y (.inr hy)
theorem mem_mergeD {l : List Dp} (h : ∀ y ∈ l, y ∈ nine) (y : Dp) : y ∈ mergeD l ↔ y ∈ l := by
  refine ⟨mergeD_sub l y, fun hy => ?_⟩
  obtain ⟨z, hz, hs⟩ := uqD_cov l y hy
  have := nine_det (h z (uqD_sub l z hz)) (h y hy) hs
  subst this
  exact (List.mergeSort_perm _ _).mem_iff.2 hz
theorem uqD_nodup (l : List Dp) : (uqD l).Nodup := (uqD_dist l).imp (fun {x y} h (e : x = y) => h (by rw [e]; exact SameQ.rfl' _))
theorem mergeD_set {l m : List Dp} (hl : ∀ y ∈ l, y ∈ nine) (hm : ∀ y ∈ m, y ∈ nine) (h : ∀ y, y ∈ l ↔ y ∈ m) : mergeD l = mergeD m := by
  refine sorted_is (uqD_dist m) ?_ (List.pairwise_mergeSort leD_trans leD_total _)
  refine (List.mergeSort_perm _ _).trans ((List.perm_ext_iff_of_nodup (uqD_nodup l) (uqD_nodup m)).2 fun y => ?_)
  have e1 : y ∈ uqD l ↔ y ∈ mergeD l := (List.mergeSort_perm _ _).mem_iff.symm
  have e2 : y ∈ uqD m ↔ y ∈ mergeD m := (List.mergeSort_perm _ _).mem_iff.symm
  rw [e1, e2, mem_mergeD hl, mem_mergeD hm, h]

/-- x is reached from a along uses. -/
inductive Reach (ns : List Nd) (a : Int) : Int → Prop
  | refl : Reach ns a a
  | step {x u : Int} (h : Reach ns a x) (hu : u ∈ usesOf ns x) : Reach ns a u
theorem Reach.cons {ns : List Nd} {a u x : Int} (hu : u ∈ usesOf ns a) (h : Reach ns u x) : Reach ns a x := by
  induction h with
  | refl => exact .step .refl hu
  | step _ hu' ih => exact .step ih hu'
theorem Reach.head {ns : List Nd} {a x : Int} (h : Reach ns a x) : x = a ∨ ∃ u ∈ usesOf ns a, Reach ns u x := by
  induction h with
  | refl => exact .inl rfl
  | step h1 hu ih =>
    rcases ih with rfl | ⟨u', h2, h3⟩
    · exact .inr ⟨_, hu, .refl⟩
    · exact .inr ⟨u', h2, .step h3 hu⟩
theorem depsOf_nine {ns : List Nd} (hn : ∀ x ∈ ns, ∀ y ∈ x.deps, y ∈ nine) (n : Int) : ∀ y ∈ depsOf ns n, y ∈ nine := by
  intro y hy
  unfold depsOf at hy
  cases hx : nodeOf ns n with
  | none => rw [hx] at hy; simp at hy
  | some x => rw [hx] at hy; exact hn x (nodeOf_some hx).1 y hy
theorem mem_allD {ns : List Nd} {last : Nat} (hc : Closed ns) (hr : ∀ x ∈ ns, 1 ≤ x.num ∧ x.num ≤ last) (hn : ∀ x ∈ ns, ∀ y ∈ x.deps, y ∈ nine) :
    ∀ (k : Nat) (n : Int), n.toNat < k → nodeOf ns n ≠ none → ∀ y, y ∈ allD ns n ↔ ∃ x, Reach ns n x ∧ y ∈ depsOf ns x
  | 0, _, h, _, _ => by omega
  | k + 1, n, hk, hx, y => by
    cases hxe : nodeOf ns n with
    | none => exact absurd hxe hx
    | some x =>
      obtain ⟨h1, h2⟩ := nodeOf_some hxe
      have hu : usesOf ns n = x.uses := by simp [usesOf, hxe]
      have hd : depsOf ns n = x.deps := by simp [depsOf, hxe]
      have hstep : ∀ u ∈ x.uses, u.toNat < k ∧ nodeOf ns u ≠ none := fun u hu' => by
        obtain ⟨q1, q2⟩ := hc x h1 u hu'
        refine ⟨?_, q2⟩
        have := (hr x h1).1
        omega
      have hall : ∀ z ∈ x.deps ++ (x.uses.map (allD ns)).flatten, z ∈ nine := fun z hz => by
        rcases List.mem_append.1 hz with hz | hz
        · exact hn x h1 z hz
        · obtain ⟨l, hl, hz⟩ := List.mem_flatten.1 hz
          obtain ⟨u, _, rfl⟩ := List.mem_map.1 hl
          exact allF_P hn _ u z hz
      rw [allD_eq hc hr hxe, mem_mergeD hall, List.mem_append]
      constructor
      · rintro (h | h)
        · exact ⟨n, .refl, by rw [hd]; exact h⟩
        · obtain ⟨l, hl, hz⟩ := List.mem_flatten.1 h
          obtain ⟨u, hu', rfl⟩ := List.mem_map.1 hl
          obtain ⟨z, hz1, hz2⟩ := (mem_allD hc hr hn k u (hstep u hu').1 (hstep u hu').2 y).1 hz
          exact ⟨z, hz1.cons (by rw [hu]; exact hu'), hz2⟩
      · rintro ⟨z, hz, hy⟩
        rcases hz.head with rfl | ⟨u, hu', hz⟩
        · left; rw [← hd]; exact hy
        · right
          rw [hu] at hu'
          exact List.mem_flatten.2 ⟨allD ns u, List.mem_map.2 ⟨u, hu', rfl⟩, (mem_allD hc hr hn k u (hstep u hu').1 (hstep u hu').2 y).2 ⟨z, hz, hy⟩⟩

/-- A search along uses, sq being what was seen, in order; p of them are done. -/
structure Srch (ns : List Nd) (a : Int) (sq : List Int) (p : Nat) : Prop where
  has : a ∈ sq
  le : p ≤ sq.length
  reach : ∀ x ∈ sq, Reach ns a x
  done : ∀ x ∈ sq.take p, ∀ u ∈ usesOf ns x, u ∈ sq
  nodup : sq.Nodup
theorem Srch.all {ns : List Nd} {a : Int} {sq : List Int} (h : Srch ns a sq sq.length) (x : Int) : Reach ns a x ↔ x ∈ sq := by
  refine ⟨fun hx => ?_, h.reach x⟩
  have hd := h.done
  rw [List.take_length] at hd
  induction hx with
  | refl => exact h.has
  | step _ hu ih => exact hd _ ih _ hu
theorem Srch.law {w : World} {b nb eb base k : Nat} {ns : List Nd} (hb : Bt w b nb eb base k ns) {a : Int} {sq : List Int} (h : Srch ns a sq sq.length) (h1 : 1 ≤ a) (h2 : a ≤ k) :
    mergeD (sq.map (depsOf ns)).flatten = allDeps ns a := by
  have hx := hb.full a h1 h2
  have e : allDeps ns a = allD ns a := by
    unfold allDeps
    cases hn : nodeOf ns a with
    | none => exact absurd hn hx
    | some x => rfl
  rw [e]
  have hm : ∀ y, y ∈ (sq.map (depsOf ns)).flatten ↔ y ∈ allD ns a := fun y => by
    rw [mem_allD hb.closed hb.gat.rng hb.nine (a.toNat + 1) a (Nat.lt_succ_self _) hx y, List.mem_flatten]
    constructor
    · rintro ⟨l, hl, hy⟩
      obtain ⟨x, hx', rfl⟩ := List.mem_map.1 hl
      exact ⟨x, h.reach x hx', hy⟩
    · rintro ⟨x, hx', hy⟩
      exact ⟨depsOf ns x, List.mem_map.2 ⟨x, (h.all x).1 hx', rfl⟩, hy⟩
  have hs : ∀ y ∈ (sq.map (depsOf ns)).flatten, y ∈ nine := fun y hy => by
    obtain ⟨l, hl, hz⟩ := List.mem_flatten.1 hy
    obtain ⟨u, _, rfl⟩ := List.mem_map.1 hl
    exact depsOf_nine hb.nine u y hz
  cases hxe : nodeOf ns a with
  | none => exact absurd hxe hx
  | some x =>
    have eL := allD_eq hb.closed hb.gat.rng hxe
    have hL : ∀ z ∈ x.deps ++ (x.uses.map (allD ns)).flatten, z ∈ nine := fun z hz => by
      rcases List.mem_append.1 hz with hz | hz
      · exact hb.nine x (nodeOf_some hxe).1 z hz
      · obtain ⟨l, hl, hz⟩ := List.mem_flatten.1 hz
        obtain ⟨u, _, rfl⟩ := List.mem_map.1 hl
        exact allF_P hb.nine _ u z hz
    rw [eL]
    exact mergeD_set hs hL (fun y => by rw [hm y, eL, mem_mergeD hL])
end Go.Proofs.YtkldomkooleecaaGreatDoor
