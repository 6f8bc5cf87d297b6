/- Adding a node: the plain part. -/
import Derived.Test.YtkldomkooleecaaGreatDoorGRem
import Derived.Test.YtkldomkooleecaaGreatDoorAsc
namespace Go.Proofs.YtkldomkooleecaaGreatDoor
open Go.RowKit Go.Maps Go.MapKept

/-- The edges of a graph and those from n to some. -/
def EdgeA (w : World) (eb : Nat) (ns : List Nd) (n : Int) (us : List Int) : Prop := ∃ es c, IsMap PairKey w eb es c ∧ (∀ e ∈ es, e.val = .bool true) ∧ ∀ x y : Int, (∃ e ∈ es, e.key = pairK x y) ↔ (edgeB ns x y = true ∨ (x = n ∧ y ∈ us))
theorem EdgeA.start {w : World} {eb : Nat} {ns : List Nd} (n : Int) (h : Edges w eb ns) : EdgeA w eb ns n [] := by
  obtain ⟨es, c, h1, h2, h3⟩ := h
  exact ⟨es, c, h1, h2, fun x y => by rw [h3 x y]; simp⟩
theorem EdgeA.kept {w w' : World} {eb : Nat} {ns : List Nd} {n : Int} {us : List Int} {M : List Nat} (h : EdgeA w eb ns n us) (k : Kept M w w') (hn : eb ∉ M) : EdgeA w' eb ns n us := by
  obtain ⟨es, c, h1, h2⟩ := h
  exact ⟨es, c, h1.kept k hn, h2⟩
/-- One more edge, at a new key. -/
theorem EdgeA.new {w' : World} {eb c c' : Nat} {ns : List Nd} {n u : Int} {us : List Int} {es : List MapEntry} (h2 : ∀ e ∈ es, e.val = .bool true)
    (h3 : ∀ x y : Int, (∃ e ∈ es, e.key = pairK x y) ↔ (edgeB ns x y = true ∨ (x = n ∧ y ∈ us)))
    (h1 : IsMap PairKey w' eb (es ++ [({ key := pairK n u, val := .bool true, born := c } : MapEntry)]) c') : EdgeA w' eb ns n (us ++ [u]) := by
  refine ⟨_, _, h1, fun e he => ?_, fun x y => ?_⟩
  · rcases List.mem_append.1 he with he | he
    · exact h2 e he
    · rw [List.mem_singleton] at he
      subst he; rfl
  · have hl : (∃ e ∈ es ++ [({ key := pairK n u, val := .bool true, born := c } : MapEntry)], e.key = pairK x y) ↔ ((∃ e ∈ es, e.key = pairK x y) ∨ pairK n u = pairK x y) := by
      simp only [List.mem_append, List.mem_singleton]
      constructor
      · rintro ⟨e, he | rfl, hq⟩
        · exact .inl ⟨e, he, hq⟩
        · exact .inr hq
      · rintro (⟨e, he, hq⟩ | hq)
        · exact ⟨e, .inl he, hq⟩
        · exact ⟨_, .inr rfl, hq⟩
    rw [hl, h3 x y]
    simp only [List.mem_append, List.mem_singleton]
    constructor
    · rintro ((h | h) | h)
      · exact .inl h
      · exact .inr ⟨h.1, .inl h.2⟩
      · have := pairK_inj h
        exact .inr ⟨this.1.symm, .inr this.2.symm⟩
    · rintro (h | ⟨h, h' | h'⟩)
      · exact .inl (.inl h)
      · exact .inl (.inr ⟨h, h'⟩)
      · exact .inr (by rw [h, h'])
/-- One more edge, at a key that stands. -/
theorem EdgeA.old {w' : World} {eb c i : Nat} {ns : List Nd} {n u : Int} {us : List Int} {es : List MapEntry} {e : MapEntry} (h2 : ∀ e ∈ es, e.val = .bool true) (hi : es[i]? = some e) (he : e.key = pairK n u)
    (h3 : ∀ x y : Int, (∃ e ∈ es, e.key = pairK x y) ↔ (edgeB ns x y = true ∨ (x = n ∧ y ∈ us)))
    (h1 : IsMap PairKey w' eb (es.set i { e with val := .bool true }) c) : EdgeA w' eb ns n (us ++ [u]) := by
  have hs : es.set i { e with val := .bool true } = es := set_same (by rw [hi]; congr 1; have := h2 e (List.mem_of_getElem? hi); cases e; simp_all)
  rw [hs] at h1
  refine ⟨_, _, h1, h2, fun x y => ?_⟩
  rw [h3 x y]
  have hnu := (h3 n u).1 ⟨e, List.mem_of_getElem? hi, he⟩
  simp only [List.mem_append, List.mem_singleton]
  constructor
  · rintro (h | h)
    · exact .inl h
    · exact .inr ⟨h.1, .inl h.2⟩
  · rintro (h | ⟨h, h' | h'⟩)
    · exact .inl h
    · exact .inr ⟨h, h'⟩
    · rw [h, h']; exact hnu
theorem EdgeA.done {w : World} {eb : Nat} {ns : List Nd} {n : Int} {us : List Int} {x : Nd} (hx : x.num = n) (hu : ∀ y, y ∈ x.uses ↔ y ∈ us) (h : EdgeA w eb ns n us) : Edges w eb (ns ++ [x]) := by
  obtain ⟨es, c, h1, h2, h3⟩ := h
  refine ⟨es, c, h1, h2, fun a y => ?_⟩
  rw [h3 a y]
  unfold edgeB
  simp only [List.any_append, List.any_cons, List.any_nil, Bool.or_false, Bool.or_eq_true, Bool.and_eq_true, beq_iff_eq, List.contains_iff_mem]
  rw [hx, hu y]
  exact ⟨fun h => h.imp id fun h => ⟨h.1.symm, h.2⟩, fun h => h.imp id fun h => ⟨h.1.symm, h.2⟩⟩

/-- The graph with a node more. -/
theorem GAt.added {d : Nat} {w w' : World} {b nb eb base last : Nat} {ns : List Nd} (h : GAt d w b nb eb base last ns) (x : Nd) (hx : x.num = last + 1) (k : Kept [b, nb, eb] w w')
    (hb : Blk w' b [.int .i64 ((last + 1 : Nat) : Int), .map (some nb), .map (some eb)] 67) (hm : ∃ c, IsMap IntKey w' nb ((ns ++ [x]).map Nd.ent) c) (he : Edges w' eb (ns ++ [x]))
    (hd : DL d (base ≤ ·) w' x.dv x.deps ∧ Reads (base ≤ ·) w' x.uv 1 (irows x.uses) ∧ x.deps.length ≤ 1000 ∧ x.uses.length ≤ 1000) : GAt d w' b nb eb base (last + 1) (ns ++ [x]) := by
  have q1 := h.lt1
  have q2 := h.lt2
  have q3 := h.lt3
  refine ⟨h.lt1, h.lt2, h.lt3, Nat.le_trans h.lt4 k.size, h.ne1, h.ne2, h.ne3, hb, hm, he, fun y hy => ?_, ?_, fun y hy => ?_⟩
  · rcases List.mem_append.1 hy with hy | hy
    · obtain ⟨h1, h2, h3⟩ := h.data y hy
      exact ⟨(DL.good d).kept h1 k (by simp; omega), h2.kept k (by simp; omega), h3⟩
    · rw [List.mem_singleton] at hy
      subst hy; exact hd
  · rw [List.pairwise_append]
    refine ⟨h.nums, by simp, fun y hy z hz => ?_⟩
    rw [List.mem_singleton] at hz
    subst hz
    have := (h.rng y hy).2
    omega
  · rcases List.mem_append.1 hy with hy | hy
    · have := h.rng y hy
      omega
    · rw [List.mem_singleton] at hy
      subst hy; omega
end Go.Proofs.YtkldomkooleecaaGreatDoor
