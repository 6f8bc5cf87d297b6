/- Plain facts for ReclaimComplete: which generated codes are freed, in which order. -/
import Derived.Test.YtkldomkooleecaaStackC
namespace Go.Proofs.Ytkldomkooleecaa

theorem ins_last : ∀ (l : List Int) (n : Int), (∀ x ∈ l, x < n) → ins l n = l ++ [n]
  | [], n, _ => rfl
  | x :: l, n, h => by
    have hx : x < n := h x (by simp)
    rw [ins, if_pos hx, ins_last l n (fun y hy => h y (by simp [hy]))]
    rfl
theorem inss_asc_id : ∀ (ns l : List Int), Asc (l ++ ns) → ns.foldl ins l = l ++ ns
  | [], l, _ => by simp
  | n :: ns, l, h => by
    rw [List.foldl_cons, ins_last l n (fun x hx => (List.pairwise_append.1 h).2.2 x hx n (by simp)), inss_asc_id ns (l ++ [n]) (by simpa using h)]
    simp

theorem gen_id {cs : List Cc} (h : Gen cs) {k : Nat} {x : Cc} (hx : cs[k]? = some x) : x.id = k + 1 := by
  obtain ⟨m, f, u, rfl, _⟩ := h k x hx
  rfl
theorem gen_ids {cs : List Cc} (h : Gen cs) : Asc (cs.map Cc.id) := by
  unfold Asc
  rw [List.pairwise_iff_getElem]
  intro i j hi hj hij
  simp only [List.length_map] at hi hj
  have h1 := gen_id h (List.getElem?_eq_getElem hi)
  have h2 := gen_id h (List.getElem?_eq_getElem hj)
  simp only [List.getElem_map]
  omega
theorem freed_sub (act ws : List Int) (cs : List Cc) : (freed act ws cs).Sublist (cs.map Cc.id) := List.Sublist.map _ List.filter_sublist
theorem freed_id {cs : List Cc} (h : Gen cs) (act ws : List Int) : (freed act ws cs).foldl ins [] = freed act ws cs := by
  have := inss_asc_id (freed act ws cs) [] (by simpa [Asc] using List.Pairwise.sublist (freed_sub act ws cs) (gen_ids h))
  simpa using this

/-- The next of the freed codes is this one, if it is freed. -/
theorem freed_at {cs : List Cc} (h : Gen cs) (act ws : List Int) {k : Nat} {x : Cc} (hx : cs[k]? = some x) :
    (freeB act ws x = true → (freed act ws cs)[(freed act ws (cs.take k)).length]? = some x.id) ∧
    (freeB act ws x = false → ∀ n, (freed act ws cs)[(freed act ws (cs.take k)).length]? = some n → n ≠ x.id) := by
  have hk := (List.getElem?_eq_some_iff.1 hx).1
  have e : freed act ws cs = freed act ws (cs.take k) ++ freed act ws (cs.drop k) := by rw [← freed_append, List.take_append_drop]
  have ed : cs.drop k = x :: cs.drop (k + 1) := by
    rw [List.drop_eq_getElem_cons hk]
    rw [List.getElem?_eq_getElem hk] at hx
    simp at hx
    rw [hx]
  constructor
  · intro hf
    rw [e, List.getElem?_append_right (Nat.le_refl _), Nat.sub_self, ed]
    simp [freed, hf]
  · intro hf n hn
    rw [e, List.getElem?_append_right (Nat.le_refl _), Nat.sub_self, ed] at hn
    have e2 : freed act ws (x :: cs.drop (k + 1)) = freed act ws (cs.drop (k + 1)) := by simp [freed, hf]
    rw [e2] at hn
    have hm := List.mem_of_getElem? hn
    obtain ⟨y, hy, rfl⟩ := List.mem_map.1 hm
    have hy' := (List.mem_filter.1 hy).1
    obtain ⟨j, hj⟩ := List.mem_iff_getElem?.1 hy'
    rw [List.getElem?_drop] at hj
    have h1 := gen_id h hj
    have h2 := gen_id h hx
    omega
theorem freed_take (act ws : List Int) {cs : List Cc} {k : Nat} {x : Cc} (hx : cs[k]? = some x) : freed act ws (cs.take (k + 1)) = freed act ws (cs.take k) ++ (if freeB act ws x then [x.id] else []) := by
  rw [List.take_add_one, hx, freed_append]
  congr 1
  cases h : freeB act ws x <;> simp [freed, h]

/-- What the law looks at in a frame. -/
def offB (i f u : Int) (y : Frm) : Bool := (y.code != i) && !(decide (f ≤ y.world) && decide (y.world < u))
theorem off_snoc (i f u : Int) (l : List Frm) (m : Nat) (y : Frm) (h : l[m]? = some y) : (l.take (m + 1)).all (offB i f u) = ((l.take m).all (offB i f u) && offB i f u y) := by
  rw [List.take_add_one, h]; simp
theorem want_eq (l : List Frm) (x : Cc) (hi : 1 ≤ x.id) (hu : x.unt ≤ 12) :
    freeB ((fcodes l).foldl ins []) (12 :: (fworlds l).foldl ins []) x = ((x.unt != 0) && l.all (offB x.id x.frm x.unt)) := by
  rw [Bool.eq_iff_iff]
  simp only [freeB, outOf, offB, Bool.and_eq_true, decide_eq_true_eq, Bool.not_eq_true', decide_eq_false_iff_not, List.all_eq_true, List.mem_cons, inss_mem, List.not_mem_nil, false_or, bne_iff_ne, ne_eq, Bool.or_eq_true, Bool.and_eq_false_iff, fcodes, fworlds, List.mem_filter, List.mem_map]
  constructor
  · rintro ⟨⟨h1, h2⟩, h3⟩
    refine ⟨h1, fun y hy => ⟨fun e => h2 ⟨⟨y, hy, e⟩, by omega⟩, ?_⟩⟩
    have := h3 y.world (.inr ⟨y, hy, rfl⟩)
    omega
  · rintro ⟨h1, h2⟩
    refine ⟨⟨h1, fun ⟨⟨y, hy, e⟩, _⟩ => (h2 y hy).1 e⟩, fun w hw => ?_⟩
    rcases hw with rfl | ⟨y, hy, rfl⟩
    · omega
    · have := (h2 y hy).2
      omega
end Go.Proofs.Ytkldomkooleecaa
