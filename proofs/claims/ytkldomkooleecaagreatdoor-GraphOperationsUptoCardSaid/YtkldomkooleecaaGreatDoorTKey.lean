/- The key of a type tells the type: plain facts on lists of numbers. -/
import Derived.Test.YtkldomkooleecaaGreatDoorQuoteInj
import Derived.Test.YtkldomkooleecaaGreatDoorOwnT
import Derived.Lib.ItoaNum
namespace Go.Proofs.YtkldomkooleecaaGreatDoor
open Go.Lib

/-- A numeral's bytes as numbers. -/
def inum (n : Int) : List Int := (itoa n).map fun c => (c.toNat : Int)
def dnum (u : Nat) : List Int := (decDigits u).map fun c => (c.toNat : Int)
def dval (l : List Int) : Int := l.foldl (fun a x => 10 * a + (x - 48)) 0
theorem dnum_small {u : Nat} (h : u < 10) : dnum u = [(48 : Int) + u] := by
  unfold dnum
  rw [decDigits, dif_pos h]
  simp
  omega
theorem dnum_big {u : Nat} (h : ¬ u < 10) : dnum u = dnum (u / 10) ++ [((48 + u % 10 : Nat) : Int)] := by
  unfold dnum
  rw [decDigits, dif_neg h, List.map_append]
  congr 1
  simp
  omega
theorem dnum_all : ∀ u : Nat, (∀ x ∈ dnum u, 48 ≤ x ∧ x ≤ 57) ∧ dval (dnum u) = u ∧ dnum u ≠ [] := by
  intro u
  induction u using Nat.strongRecOn with
  | ind u ih =>
    by_cases h : u < 10
    · rw [dnum_small h]
      refine ⟨fun x hx => ?_, ?_, by simp⟩
      · simp at hx; omega
      · simp [dval]; omega
    · obtain ⟨h1, h2, _⟩ := ih (u / 10) (by omega)
      rw [dnum_big h]
      refine ⟨fun x hx => ?_, ?_, by simp⟩
      · rcases List.mem_append.1 hx with hx | hx
        · exact h1 x hx
        · simp at hx; omega
      · unfold dval at h2 ⊢
        rw [List.foldl_append, h2]
        simp
        omega
/-- Digits, then something else. -/
theorem split_digits : ∀ (l m : List Int) (c c' : Int) (r r' : List Int), (∀ x ∈ l, 48 ≤ x ∧ x ≤ 57) → (∀ x ∈ m, 48 ≤ x ∧ x ≤ 57) → ¬ (48 ≤ c ∧ c ≤ 57) → ¬ (48 ≤ c' ∧ c' ≤ 57) → l ++ c :: r = m ++ c' :: r' → l = m ∧ c = c' ∧ r = r'
  | [], [], c, c', r, r', _, _, _, _, h => by simpa using h
  | [], b :: m, c, c', r, r', _, h2, h3, _, h => by
    simp at h
    exact absurd (h2 b (by simp)) (by rw [← h.1]; exact h3)
  | a :: l, [], c, c', r, r', h1, _, _, h4, h => by
    simp at h
    exact absurd (h1 a (by simp)) (by rw [h.1]; exact h4)
  | a :: l, b :: m, c, c', r, r', h1, h2, h3, h4, h => by
    simp at h
    obtain ⟨e1, e2, e3⟩ := split_digits l m c c' r r' (fun x hx => h1 x (by simp [hx])) (fun x hx => h2 x (by simp [hx])) h3 h4 h.2
    exact ⟨by rw [h.1, e1], e2, e3⟩
theorem inum_nonneg {n : Int} (h : 0 ≤ n) : inum n = dnum n.toNat := by
  unfold inum itoa dnum
  rw [if_neg (by omega)]
theorem inum_neg {n : Int} (h : n < 0) : inum n = 45 :: dnum n.natAbs := by
  unfold inum itoa dnum
  rw [if_pos h]
  rfl
theorem inum_head (n : Int) : ∃ x l, inum n = x :: l ∧ (x = 45 ∨ (48 ≤ x ∧ x ≤ 57)) := by
  by_cases h : n < 0
  · exact ⟨45, _, inum_neg h, .inl rfl⟩
  · rw [inum_nonneg (by omega)]
    obtain ⟨h1, _, h3⟩ := dnum_all n.toNat
    cases hd : dnum n.toNat with
    | nil => exact absurd hd h3
    | cons x l => exact ⟨x, l, rfl, .inr (h1 x (by rw [hd]; simp))⟩
theorem dnum_inj {u v : Nat} {c c' : Int} {r r' : List Int} (h3 : ¬ (48 ≤ c ∧ c ≤ 57)) (h4 : ¬ (48 ≤ c' ∧ c' ≤ 57)) (h : dnum u ++ c :: r = dnum v ++ c' :: r') : u = v ∧ c = c' ∧ r = r' := by
  obtain ⟨a1, a2, _⟩ := dnum_all u
  obtain ⟨b1, b2, _⟩ := dnum_all v
  obtain ⟨e1, e2, e3⟩ := split_digits _ _ c c' r r' a1 b1 h3 h4 h
  rw [e1] at a2
  exact ⟨by omega, e2, e3⟩
theorem inum_inj {n m : Int} {c c' : Int} {r r' : List Int} (h3 : ¬ (48 ≤ c ∧ c ≤ 57)) (h4 : ¬ (48 ≤ c' ∧ c' ≤ 57)) (h : inum n ++ c :: r = inum m ++ c' :: r') : n = m ∧ c = c' ∧ r = r' := by
  by_cases hn : n < 0 <;> by_cases hm : m < 0
  · rw [inum_neg hn, inum_neg hm] at h
    simp only [List.cons_append, List.cons.injEq, true_and] at h
    obtain ⟨e1, e2⟩ := dnum_inj h3 h4 h
    exact ⟨by omega, e2⟩
  · rw [inum_neg hn, inum_nonneg (by omega)] at h
    obtain ⟨h1, _, h2⟩ := dnum_all m.toNat
    cases hd : dnum m.toNat with
    | nil => exact absurd hd h2
    | cons x l =>
      rw [hd] at h h1
      simp only [List.cons_append, List.cons.injEq] at h
      have := h1 x (by simp)
      omega
  · rw [inum_neg hm, inum_nonneg (by omega)] at h
    obtain ⟨h1, _, h2⟩ := dnum_all n.toNat
    cases hd : dnum n.toNat with
    | nil => exact absurd hd h2
    | cons x l =>
      rw [hd] at h h1
      simp only [List.cons_append, List.cons.injEq] at h
      have := h1 x (by simp)
      omega
  · rw [inum_nonneg (by omega), inum_nonneg (by omega)] at h
    obtain ⟨e1, e2⟩ := dnum_inj h3 h4 h
    exact ⟨by omega, e2⟩

mutual
/-- What own.TypeKey gives, as numbers. -/
def tkey (T : PrintTabs) : Ty → List Int
  | .mk k n i l => inum k ++ 44 :: (quoteZ T n ++ (inum i ++ 40 :: (tkeys T l ++ [41])))
def tkeys (T : PrintTabs) : List Ty → List Int
  | [] => []
  | a :: l => tkey T a ++ tkeys T l
end
theorem tkey_head (T : PrintTabs) (x : Ty) : ∃ c l, tkey T x = c :: l ∧ (c = 45 ∨ (48 ≤ c ∧ c ≤ 57)) := by
  obtain ⟨k, n, i, l⟩ := x
  obtain ⟨c, m, h, hc⟩ := inum_head k
  rw [tkey, h]
  exact ⟨c, _, rfl, hc⟩
mutual
theorem tkey_inj (T : PrintTabs) : ∀ (x y : Ty) (r r' : List Int), tkey T x ++ r = tkey T y ++ r' → x = y ∧ r = r'
  | .mk k n i l, .mk k' n' i' l', r, r', h => by
    rw [tkey, tkey] at h
    simp only [List.append_assoc, List.cons_append] at h
    obtain ⟨e1, _, h1⟩ := inum_inj (by omega) (by omega) h
    obtain ⟨e2, h2⟩ := quoteZ_inj T n n' _ _ h1
    obtain ⟨e3, _, h3⟩ := inum_inj (by omega) (by omega) h2
    obtain ⟨e4, h4⟩ := tkeys_inj T l l' _ _ h3
    exact ⟨by rw [e1, e2, e3, e4], by simpa using h4⟩
theorem tkeys_inj (T : PrintTabs) : ∀ (l m : List Ty) (r r' : List Int), tkeys T l ++ (41 :: r) = tkeys T m ++ (41 :: r') → l = m ∧ r = r'
  | [], [], r, r', h => by
    rw [tkeys] at h
    exact ⟨rfl, by simpa using h⟩
  | [], b :: m, r, r', h => by
    rw [tkeys, tkeys] at h
    obtain ⟨c, l, e, hc⟩ := tkey_head T b
    rw [e] at h
    simp only [List.nil_append, List.cons_append, List.cons.injEq] at h
    omega
  | a :: l, [], r, r', h => by
    rw [tkeys, tkeys] at h
    obtain ⟨c, l', e, hc⟩ := tkey_head T a
    rw [e] at h
    simp only [List.nil_append, List.cons_append, List.cons.injEq] at h
    omega
  | a :: l, b :: m, r, r', h => by
    rw [tkeys, tkeys, List.append_assoc, List.append_assoc] at h
    obtain ⟨e1, h1⟩ := tkey_inj T a b _ _ h
    obtain ⟨e2, h2⟩ := tkeys_inj T l m _ _ h1
    exact ⟨by rw [e1, e2], h2⟩
end
theorem tkey_inj' {T : PrintTabs} {x y : Ty} (h : tkey T x = tkey T y) : x = y := (tkey_inj T x y [] [] (by rw [h])).1
end Go.Proofs.YtkldomkooleecaaGreatDoor
