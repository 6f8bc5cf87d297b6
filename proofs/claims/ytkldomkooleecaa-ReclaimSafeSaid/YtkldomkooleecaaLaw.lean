/- Plain facts on strictly ascending lists of integers: two such lists with the same members are equal. -/
namespace Go.Proofs.Ytkldomkooleecaa

/-- Insertion of a number into an ascending list, unless it is there. -/
def ins : List Int → Int → List Int
  | [], n => [n]
  | x :: l, n => if x < n then x :: ins l n else if x = n then x :: l else n :: x :: l

def Asc (l : List Int) : Prop := l.Pairwise (· < ·)

theorem ins_mem (l : List Int) (n : Int) : ∀ x, x ∈ ins l n ↔ x ∈ l ∨ x = n := by
  induction l with
  | nil => intro x; simp [ins]
  | cons y l ih =>
    intro x
    unfold ins
    split
    · simp [ih, or_assoc]
    · split
      · rename_i h; subst h; simp; intro h; exact .inl h
      · simp; grind

theorem ins_asc (l : List Int) (n : Int) (h : Asc l) : Asc (ins l n) := by
  unfold Asc at *
  induction l with
  | nil => simp [ins]
  | cons y l ih =>
    rw [List.pairwise_cons] at h
    unfold ins
    split
    · rename_i hlt
      rw [List.pairwise_cons]
      refine ⟨fun x hx => ?_, ih h.2⟩
      rcases (ins_mem l n x).1 hx with hx | rfl
      · exact h.1 x hx
      · exact hlt
    · split
      · exact List.pairwise_cons.2 h
      · rename_i h1 h2
        rw [List.pairwise_cons, List.pairwise_cons]
        refine ⟨fun x hx => ?_, h⟩
        rcases List.mem_cons.1 hx with rfl | hx
        · omega
        · have := h.1 x hx; omega

theorem asc_ext : ∀ (l l' : List Int), Asc l → Asc l' → (∀ x, x ∈ l ↔ x ∈ l') → l = l'
  | [], [], _, _, _ => rfl
  | [], y :: l', _, _, h => absurd ((h y).2 (by simp)) (by simp)
  | x :: l, [], _, _, h => absurd ((h x).1 (by simp)) (by simp)
  | x :: l, y :: l', h1, h2, h => by
    unfold Asc at h1 h2
    rw [List.pairwise_cons] at h1 h2
    have hxy : x = y := by
      have a := (h x).1 (by simp)
      have b := (h y).2 (by simp)
      rcases List.mem_cons.1 a with a | a
      · exact a
      · rcases List.mem_cons.1 b with b | b
        · exact b.symm
        · have := h2.1 x a; have := h1.1 y b; omega
    subst hxy
    rw [asc_ext l l' h1.2 h2.2 (fun z => by
      have := h z
      simp only [List.mem_cons] at this
      constructor
      · intro hz
        have hne := h1.1 z hz
        rcases this.1 (.inr hz) with e | e
        · omega
        · exact e
      · intro hz
        have hne := h2.1 z hz
        rcases this.2 (.inr hz) with e | e
        · omega
        · exact e)]

/-- The sort of a list without repetition is strictly ascending. -/
theorem sort_asc (l : List Int) (h : l.Nodup) : Asc (l.mergeSort fun x y => decide (x ≤ y)) := by
  have h1 : (l.mergeSort fun x y => decide (x ≤ y)).Pairwise (fun x y => decide (x ≤ y) = true) :=
    List.pairwise_mergeSort (fun a b c => by simp; omega) (fun a b => by simp; omega) l
  have h2 : (l.mergeSort fun x y => decide (x ≤ y)).Nodup := (List.mergeSort_perm l _).nodup_iff.2 h
  unfold Asc
  have := List.Pairwise.and h1 h2
  exact this.imp (fun ⟨a, b⟩ => by simp at a; omega)

theorem sort_mem (l : List Int) (x : Int) : x ∈ (l.mergeSort fun x y => decide (x ≤ y)) ↔ x ∈ l := List.mem_mergeSort

/-- A set, kept in the order of insertion. -/
def put (s : List Int) (n : Int) : List Int := if n ∈ s then s else s ++ [n]

theorem put_mem (s : List Int) (n : Int) (x : Int) : x ∈ put s n ↔ x ∈ s ∨ x = n := by
  unfold put; split
  · rename_i h; constructor
    · exact .inl
    · rintro (h1 | rfl)
      · exact h1
      · exact h
  · simp

theorem put_nodup (s : List Int) (n : Int) (h : s.Nodup) : (put s n).Nodup := by
  unfold put; split
  · exact h
  · rw [List.nodup_append]; refine ⟨h, by simp, ?_⟩
    intro a ha b hb; simp at hb; subst hb; rintro rfl; contradiction

theorem puts_mem (ns : List Int) : ∀ (s : List Int) (x : Int), x ∈ ns.foldl put s ↔ x ∈ s ∨ x ∈ ns := by
  induction ns with
  | nil => simp
  | cons n ns ih => intro s x; simp [ih, put_mem, or_assoc]
theorem puts_nodup (ns : List Int) : ∀ (s : List Int), s.Nodup → (ns.foldl put s).Nodup := by
  induction ns with
  | nil => exact fun _ h => h
  | cons n ns ih => exact fun s h => ih _ (put_nodup s n h)
theorem inss_mem (ns : List Int) : ∀ (s : List Int) (x : Int), x ∈ ns.foldl ins s ↔ x ∈ s ∨ x ∈ ns := by
  induction ns with
  | nil => simp
  | cons n ns ih => intro s x; simp [ih, ins_mem, or_assoc]
theorem inss_asc (ns : List Int) : ∀ (s : List Int), Asc s → Asc (ns.foldl ins s) := by
  induction ns with
  | nil => exact fun _ h => h
  | cons n ns ih => exact fun s h => ih _ (ins_asc s n h)

/-- THE LAW: a set that is filled in any order and then sorted is the list that is kept sorted. -/
theorem sorted_set (ns : List Int) (s l p : List Int) (hs : s.Nodup) (hl : Asc l) (hm : ∀ x, x ∈ s ↔ x ∈ l) (hp : p.Perm (ns.foldl put s)) : p.mergeSort (fun x y => decide (x ≤ y)) = ns.foldl ins l :=
  asc_ext _ _ (sort_asc _ (hp.nodup_iff.2 (puts_nodup ns s hs))) (inss_asc ns l hl) fun x => by rw [sort_mem, hp.mem_iff, puts_mem, inss_mem, hm]

end Go.Proofs.Ytkldomkooleecaa
