/- Merging two sorted parts of a row in place (sort.symMerge): plain facts. -/
import Derived.Test.YtkldomkooleecaaGreatDoorDOrd
import Derived.Sort.LotA
import Derived.Test.YtkldomkooleecaaGreatDoorStable

namespace Go.Proofs.YtkldomkooleecaaGreatDoor
open Go.Sort

section
variable {α : Type} [Inhabited α]
/-- Two runs of length n changed places. -/
structure SwR (d e : Array α) (lo hi p q n : Nat) : Prop where
  perm : PermIn lo hi d e
  fst : ∀ k, k < n → e[p + k]! = d[q + k]!
  snd : ∀ k, k < n → e[q + k]! = d[p + k]!
  out : ∀ k, (k < p ∨ p + n ≤ k) → (k < q ∨ q + n ≤ k) → e[k]! = d[k]!
theorem SwR.zero (d : Array α) (lo hi p q : Nat) : SwR d d lo hi p q 0 := ⟨permIn_refl _ _ _, fun k h => by omega, fun k h => by omega, fun _ _ _ => rfl⟩
theorem SwR.next {d e : Array α} {lo hi p q n : Nat} (h : SwR d e lo hi p q n) (hlo : lo ≤ p) (hpq : p + (n + 1) ≤ q) (hq : q + n < hi) (hhi : hi ≤ d.size) : SwR d (swp e (p + n) (q + n)) lo hi p q (n + 1) := by
  have hsz : e.size = d.size := h.perm.1
  have s1 : p + n < e.size := by omega
  have s2 : q + n < e.size := by omega
  refine ⟨permIn_trans _ _ _ _ _ h.perm (swp_permIn _ _ _ _ _ (by omega) (by omega) (by omega) (by omega) (by omega)), fun k hk => ?_, fun k hk => ?_, fun k h1 h2 => ?_⟩
  · rw [swp_get e s1 s2, if_neg (by omega)]
    by_cases hkn : k = n
    · subst hkn
      rw [if_pos rfl]
      exact h.out _ (by omega) (by omega)
    · rw [if_neg (by omega)]
      exact h.fst k (by omega)
  · rw [swp_get e s1 s2]
    by_cases hkn : k = n
    · subst hkn
      rw [if_pos rfl]
      exact h.out _ (by omega) (by omega)
    · rw [if_neg (by omega), if_neg (by omega)]
      exact h.snd k (by omega)
  · rw [swp_get e s1 s2, if_neg (by omega), if_neg (by omega)]
    exact h.out k (by omega) (by omega)

/-- The row with its parts [a, m) and [m, b) in the other order. -/
def rotF (d : Array α) (a m b : Nat) (p : Nat) : α := if p < a ∨ b ≤ p then d[p]! else if p < a + (b - m) then d[m + (p - a)]! else d[a + (p - (a + (b - m)))]!
theorem rotF_lo {d : Array α} {a m b p : Nat} (h : p < a) : rotF d a m b p = d[p]! := by unfold rotF; rw [if_pos (.inl h)]
theorem rotF_hi {d : Array α} {a m b p : Nat} (h : b ≤ p) : rotF d a m b p = d[p]! := by unfold rotF; rw [if_pos (.inr h)]
theorem rotF_fst {d : Array α} {a m b p : Nat} (h1 : a ≤ p) (h2 : p < a + (b - m)) (hm : a ≤ m) (hb : m ≤ b) : rotF d a m b p = d[m + (p - a)]! := by
  unfold rotF; rw [if_neg (by omega), if_pos h2]
theorem rotF_snd {d : Array α} {a m b p : Nat} (h1 : a + (b - m) ≤ p) (h2 : p < b) : rotF d a m b p = d[a + (p - (a + (b - m)))]! := by
  unfold rotF; rw [if_neg (by omega), if_neg (by omega)]
theorem rotF_left {d : Array α} {a b p : Nat} : rotF d a a b p = d[p]! := by
  unfold rotF
  split
  · rfl
  · split
    · congr 1; omega
    · exfalso; omega
theorem rotF_right {d : Array α} {a b p : Nat} : rotF d a b b p = d[p]! := by
  unfold rotF
  split
  · rfl
  · split
    · exfalso; omega
    · congr 1; omega

/-- The window [m - i, m + j) is still to be turned. -/
structure RotI (T : Nat → α) (e : Array α) (a m b i j : Nat) : Prop where
  lo : a + i ≤ m
  hi : m + j ≤ b
  out : ∀ p, p < m - i ∨ m + j ≤ p → e[p]! = T p
  fst : ∀ k, k < j → T (m - i + k) = e[m + k]!
  snd : ∀ k, k < i → T (m - i + j + k) = e[m - i + k]!
theorem RotI.start {d : Array α} {a m b : Nat} (h1 : a ≤ m) (h2 : m ≤ b) : RotI (rotF d a m b) d a m b (m - a) (b - m) := by
  refine ⟨by omega, by omega, fun p hp => ?_, fun k hk => ?_, fun k hk => ?_⟩
  · unfold rotF
    rw [if_pos (by omega)]
  · rw [rotF_fst (by omega) (by omega) h1 h2]
    congr 1
    omega
  · rw [rotF_snd (by omega) (by omega)]
    congr 1
    omega
theorem RotI.left {T : Nat → α} {e f : Array α} {a m b i j lo hi : Nat} (h : RotI T e a m b i j) (hij : j < i) (hs : SwR e f lo hi (m - i) m j) : RotI T f a m b (i - j) j := by
  have := h.lo
  have := h.hi
  refine ⟨by omega, by omega, fun p hp => ?_, fun k hk => ?_, fun k hk => ?_⟩
  · by_cases hin : m - i ≤ p ∧ p < m - i + j
    · have e1 := hs.fst (p - (m - i)) (by omega)
      rw [show m - i + (p - (m - i)) = p by omega] at e1
      rw [e1, ← h.fst (p - (m - i)) (by omega)]
      congr 1
      omega
    · rw [hs.out p (by omega) (by omega)]
      exact h.out p (by omega)
  · rw [hs.snd k hk, ← h.snd k (by omega)]
    congr 1
    omega
  · rw [show m - (i - j) + k = m - i + (j + k) by omega, hs.out _ (by omega) (by omega), ← h.snd (j + k) (by omega)]
    congr 1
    omega
theorem RotI.right {T : Nat → α} {e f : Array α} {a m b i j lo hi : Nat} (h : RotI T e a m b i j) (hij : i < j) (hs : SwR e f lo hi (m - i) (m + j - i) i) : RotI T f a m b i (j - i) := by
  have := h.lo
  have := h.hi
  refine ⟨by omega, by omega, fun p hp => ?_, fun k hk => ?_, fun k hk => ?_⟩
  · by_cases hin : m + j - i ≤ p ∧ p < m + j - i + i
    · have e1 := hs.snd (p - (m + j - i)) (by omega)
      rw [show m + j - i + (p - (m + j - i)) = p by omega] at e1
      rw [e1, ← h.snd (p - (m + j - i)) (by omega)]
      congr 1
      omega
    · rw [hs.out p (by omega) (by omega)]
      exact h.out p (by omega)
  · rw [hs.out _ (by omega) (by omega)]
    exact h.fst k (by omega)
  · rw [hs.fst k hk, show m + j - i + k = m + (j - i + k) by omega, ← h.fst (j - i + k) (by omega)]
    congr 1
    omega
theorem RotI.last {T : Nat → α} {e f : Array α} {a m b i lo hi : Nat} (h : RotI T e a m b i i) (hs : SwR e f lo hi (m - i) m i) : ∀ p, f[p]! = T p := by
  have := h.lo
  have := h.hi
  intro p
  by_cases h1 : m - i ≤ p ∧ p < m
  · have e1 := hs.fst (p - (m - i)) (by omega)
    rw [show m - i + (p - (m - i)) = p by omega] at e1
    rw [e1, ← h.fst (p - (m - i)) (by omega)]
    congr 1
    omega
  · by_cases h2 : m ≤ p ∧ p < m + i
    · have e1 := hs.snd (p - m) (by omega)
      rw [show m + (p - m) = p by omega] at e1
      rw [e1, ← h.snd (p - m) (by omega)]
      congr 1
      omega
    · rw [hs.out p (by omega) (by omega)]
      exact h.out p (by omega)

/-- The first goes one place up. -/
theorem shift_up {d e : Array α} {a k : Nat} (he : ∀ p, e[p]! = rotF d a (a + 1) (k + 1) p) (hak : a ≤ k) (hsz : k + 1 < e.size) : ∀ p, (swp e k (k + 1))[p]! = rotF d a (a + 1) (k + 2) p := fun p => by
  rw [swp_get e (by omega) hsz, he, he, he]
  by_cases h1 : p = k + 1
  · subst h1
    rw [if_pos rfl, rotF_snd (by omega) (by omega), rotF_snd (by omega) (by omega)]
    congr 1; omega
  · rw [if_neg h1]
    by_cases h2 : p = k
    · subst h2
      rw [if_pos rfl, rotF_hi (by omega), rotF_fst hak (by omega) (by omega) (by omega)]
      congr 1; omega
    · rw [if_neg h2]
      by_cases h3 : p < a
      · rw [rotF_lo h3, rotF_lo h3]
      · by_cases h4 : p < k
        · rw [rotF_fst (by omega) (by omega) (by omega) (by omega), rotF_fst (by omega) (by omega) (by omega) (by omega)]
        · rw [rotF_hi (by omega), rotF_hi (by omega)]
/-- The last goes one place down. -/
theorem shift_down {d e : Array α} {m k : Nat} (he : ∀ p, e[p]! = rotF d (k + 1) m (m + 1) p) (hkm : k + 1 ≤ m) (hsz : m < e.size) : ∀ p, (swp e (k + 1) k)[p]! = rotF d k m (m + 1) p := fun p => by
  rw [swp_get e (by omega) (by omega), he, he, he]
  by_cases h1 : p = k
  · subst h1
    rw [if_pos rfl, rotF_fst (by omega) (by omega) (by omega) (by omega), rotF_fst (by omega) (by omega) (by omega) (by omega)]
    congr 1; omega
  · rw [if_neg h1]
    by_cases h2 : p = k + 1
    · subst h2
      rw [if_pos rfl, rotF_lo (by omega), rotF_snd (by omega) (by omega)]
      congr 1; omega
    · rw [if_neg h2]
      by_cases h3 : p < k
      · rw [rotF_lo (by omega), rotF_lo h3]
      · by_cases h4 : p < m + 1
        · rw [rotF_snd (by omega) h4, rotF_snd (by omega) h4]
          congr 1; omega
        · rw [rotF_hi (by omega), rotF_hi (by omega)]

variable {lt : α → α → Bool}
theorem SortedIn.le' {d : Array α} {a b i j : Nat} (hw : SWO lt) (h : SortedIn lt a b d) (h1 : a ≤ i) (h2 : i ≤ j) (h3 : j < b) : lt d[j]! d[i]! = false := by
  rcases Nat.eq_or_lt_of_le h2 with e | e
  · subst e; exact hw.irrefl _
  · exact h i j h1 e h3
theorem sorted_part {d : Array α} {a b a' b' : Nat} (h : SortedIn lt a b d) (h1 : a ≤ a') (h2 : b' ≤ b) : SortedIn lt a' b' d := fun i j q1 q2 q3 => h i j (by omega) q2 (by omega)
theorem sorted_same {d e : Array α} {a b : Nat} (h : SortedIn lt a b d) (he : ∀ i, a ≤ i → i < b → e[i]! = d[i]!) : SortedIn lt a b e := fun i j q1 q2 q3 => by
  rw [he i q1 (by omega), he j (by omega) q3]
  exact h i j q1 q2 q3
theorem sorted_short {d : Array α} {a b : Nat} (h : b ≤ a + 1) : SortedIn lt a b d := fun i j q1 q2 q3 => by omega
/-- What lies in [a, m) is not above what lies in [m, b). -/
def Cross (lt : α → α → Bool) (d : Array α) (a m b : Nat) : Prop := ∀ i j, a ≤ i → i < m → m ≤ j → j < b → lt d[j]! d[i]! = false
theorem sorted_join {d : Array α} {a m b : Nat} (h1 : SortedIn lt a m d) (h2 : SortedIn lt m b d) (h : Cross lt d a m b) : SortedIn lt a b d := fun i j q1 q2 q3 => by
  by_cases hj : j < m
  · exact h1 i j q1 q2 hj
  · by_cases hi : i < m
    · exact h i j q1 hi (by omega) q3
    · exact h2 i j (by omega) q2 q3
theorem Cross.left {d e : Array α} {a m b : Nat} (h : Cross lt d a m b) (hp : PermIn a m d e) (hm : m ≤ d.size) : Cross lt e a m b := fun i j q1 q2 q3 q4 => by
  rw [hp.2.1 j (.inr q3)]
  exact permIn_all d e a m (fun x => lt d[j]! x = false) hm hp (fun k k1 k2 => h k j k1 k2 q3 q4) i q1 q2
theorem Cross.right {d e : Array α} {a m b : Nat} (h : Cross lt d a m b) (hp : PermIn m b d e) (hb : b ≤ d.size) : Cross lt e a m b := fun i j q1 q2 q3 q4 => by
  rw [hp.2.1 i (.inl q2)]
  exact permIn_all d e m b (fun x => lt x d[i]! = false) hb hp (fun k k1 k2 => h i k q1 q2 k1 k2) j q3 q4
/-- The two parts, each sorted and the first not above the second, keep so. -/
theorem join_perm {d e f : Array α} {a m b : Nat} (h : Cross lt d a m b) (ham : a ≤ m) (hmb : m ≤ b) (hb : b ≤ d.size) (p1 : PermIn a m d e) (s1 : SortedIn lt a m e) (p2 : PermIn m b e f) (s2 : SortedIn lt m b f) : PermIn a b d f ∧ SortedIn lt a b f := by
  have hs : e.size = d.size := p1.1
  refine ⟨permIn_trans _ _ _ _ _ (permIn_mono _ _ a m _ _ (Nat.le_refl _) hmb hb p1) (permIn_mono _ _ m b _ _ ham (Nat.le_refl _) (by omega) p2), sorted_join (sorted_same s1 fun i _ hi => p2.2.1 i (.inl hi)) s2 ((h.left p1 (by omega)).right p2 (by omega))⟩

/-- The runs behind a rotation. -/
theorem rot_sorted {d e : Array α} {a s m t b : Nat} (h1 : SortedIn lt a m d) (h2 : SortedIn lt m b d) (hs : a ≤ s) (hsm : s ≤ m) (hmt : m ≤ t) (htb : t ≤ b) (he : ∀ p, e[p]! = rotF d s m t p) :
    SortedIn lt a s e ∧ SortedIn lt s (s + (t - m)) e ∧ SortedIn lt (s + (t - m)) t e ∧ SortedIn lt t b e := by
  refine ⟨fun i j q1 q2 q3 => ?_, fun i j q1 q2 q3 => ?_, fun i j q1 q2 q3 => ?_, fun i j q1 q2 q3 => ?_⟩
  · rw [he, he, rotF_lo (by omega), rotF_lo (by omega)]
    exact h1 i j q1 q2 (by omega)
  · rw [he, he, rotF_fst (by omega) (by omega) hsm hmt, rotF_fst (by omega) (by omega) hsm hmt]
    exact h2 _ _ (by omega) (by omega) (by omega)
  · rw [he, he, rotF_snd (by omega) (by omega), rotF_snd (by omega) (by omega)]
    exact h1 _ _ (by omega) (by omega) (by omega)
  · rw [he, he, rotF_hi (by omega), rotF_hi (by omega)]
    exact h2 i j (by omega) q2 q3
theorem rot_cross {d e : Array α} {a s m t b : Nat} (h1 : SortedIn lt a m d) (h2 : SortedIn lt m b d) (_hs : a ≤ s) (hsm : s ≤ m) (hmt : m ≤ t) (_htb : t ≤ b) (he : ∀ p, e[p]! = rotF d s m t p)
    (hA : ∀ i j, a ≤ i → i < s → t ≤ j → j < b → lt d[j]! d[i]! = false) (hB : ∀ i j, m ≤ i → i < t → s ≤ j → j < m → lt d[j]! d[i]! = false) : Cross lt e a (s + (t - m)) b := fun p q p1 p2 q1 q2 => by
  rw [he, he]
  by_cases hp : p < s
  · rw [rotF_lo (p := p) hp]
    by_cases hq : q < t
    · rw [rotF_snd q1 hq]
      exact h1 _ _ p1 (by omega) (by omega)
    · rw [rotF_hi (by omega)]
      exact hA _ _ p1 hp (by omega) q2
  · rw [rotF_fst (p := p) (by omega) p2 hsm hmt]
    by_cases hq : q < t
    · rw [rotF_snd q1 hq]
      exact hB _ _ (by omega) (by omega) (by omega) (by omega)
    · rw [rotF_hi (by omega)]
      exact h2 _ _ (by omega) (by omega) q2

/-- Where a search by halves stands: what lies left of s is out, what lies from r on is in. -/
structure SrI (P : Nat → Bool) (s0 r0 s r : Nat) : Prop where
  lo : s0 ≤ s
  le : s ≤ r
  hi : r ≤ r0
  left : ∀ c, s0 ≤ c → c < s → P c = false
  right : ∀ c, r ≤ c → c < r0 → P c = true
/-- What holds from a place on. -/
def Mono (P : Nat → Bool) (s0 r0 : Nat) : Prop := ∀ c c', s0 ≤ c → c ≤ c' → c' < r0 → P c = true → P c' = true
theorem SrI.start {P : Nat → Bool} {s0 r0 : Nat} (h : s0 ≤ r0) : SrI P s0 r0 s0 r0 := ⟨Nat.le_refl _, h, Nat.le_refl _, fun c h1 h2 => by omega, fun c h1 h2 => by omega⟩
theorem SrI.up {P : Nat → Bool} {s0 r0 s r c : Nat} (h : SrI P s0 r0 s r) (hm : Mono P s0 r0) (h1 : s ≤ c) (h2 : c < r) (hc : P c = false) : SrI P s0 r0 (c + 1) r := by
  have := h.lo
  have := h.hi
  refine ⟨by omega, by omega, h.hi, fun k k1 k2 => ?_, h.right⟩
  cases hk : P k with
  | false => rfl
  | true => have := hm k c k1 (by omega) (by omega) hk; rw [hc] at this; cases this
theorem SrI.down {P : Nat → Bool} {s0 r0 s r c : Nat} (h : SrI P s0 r0 s r) (hm : Mono P s0 r0) (h1 : s ≤ c) (h2 : c < r) (hc : P c = true) : SrI P s0 r0 s c := by
  have := h.lo
  have := h.hi
  exact ⟨h.lo, h1, by omega, h.left, fun k k1 k2 => hm c k (by omega) k1 k2 hc⟩

/-- One element into a sorted part to its right. -/
theorem first_mono {d : Array α} {a b : Nat} (hw : SWO lt) (h : SortedIn lt (a + 1) b d) : Mono (fun c => !(lt d[c]! d[a]!)) (a + 1) b := fun c c' h1 h2 h3 hc => by
  simp only [Bool.not_eq_true'] at hc ⊢
  exact hw.ntrans _ _ _ (SortedIn.le' hw h h1 h2 h3) hc
theorem first_done {d e : Array α} {a b i : Nat} (hw : SWO lt) (h : SortedIn lt (a + 1) b d) (hs : SrI (fun c => !(lt d[c]! d[a]!)) (a + 1) b i i) (he : ∀ p, e[p]! = rotF d a (a + 1) i p) : SortedIn lt a b e := by
  have hlo := hs.lo
  have hhi := hs.hi
  obtain ⟨_, r2, _, r4⟩ := rot_sorted (a := a) (s := a) (m := a + 1) (t := i) (b := b) (e := e) (sorted_short (Nat.le_refl _)) h (Nat.le_refl _) (by omega) hlo hhi he
  have hc : Cross lt e a (a + (i - (a + 1))) b := rot_cross (sorted_short (Nat.le_refl _)) h (Nat.le_refl _) (by omega) hlo hhi he (fun p q q1 q2 => by omega) (fun p q q1 q2 q3 q4 => by
    rw [show q = a by omega]
    have := hs.left p q1 q2
    simp only [Bool.not_eq_false'] at this
    exact hw.asymmA this)
  refine sorted_join r2 (fun p q q1 q2 q3 => ?_) hc
  by_cases hp : p < i
  · rw [he, he, rotF_snd q1 hp, rotF_hi (by omega), show a + (p - (a + (i - (a + 1)))) = a by omega]
    have := hs.right q (by omega) q3
    simpa using this
  · exact r4 p q (by omega) q2 q3
/-- One element into a sorted part to its left. -/
theorem last_mono {d : Array α} {a m : Nat} (hw : SWO lt) (h : SortedIn lt a m d) : Mono (fun c => lt d[m]! d[c]!) a m := fun c c' h1 h2 h3 hc => by
  simp only at hc ⊢
  cases hk : lt d[m]! d[c']! with
  | true => rfl
  | false => rw [hw.ntrans _ _ _ hk (SortedIn.le' hw h h1 h2 h3)] at hc; cases hc
theorem last_done {d e : Array α} {a m i : Nat} (hw : SWO lt) (h : SortedIn lt a m d) (hs : SrI (fun c => lt d[m]! d[c]!) a m i i) (he : ∀ p, e[p]! = rotF d i m (m + 1) p) : SortedIn lt a (m + 1) e := by
  have hlo := hs.lo
  have hhi := hs.hi
  obtain ⟨r1, _, r3, _⟩ := rot_sorted (a := a) (s := i) (m := m) (t := m + 1) (b := m + 1) (e := e) h (sorted_short (Nat.le_refl _)) hlo hhi (by omega) (Nat.le_refl _) he
  have hc : Cross lt e a (i + (m + 1 - m)) (m + 1) := rot_cross h (sorted_short (Nat.le_refl _)) hlo hhi (by omega) (Nat.le_refl _) he (fun p q q1 q2 q3 q4 => by omega) (fun p q q1 q2 q3 q4 => by
    rw [show p = m by omega]
    exact hw.asymmA (hs.right q q3 q4))
  refine sorted_join (fun p q q1 q2 q3 => ?_) r3 hc
  by_cases hq : q < i
  · exact r1 p q q1 q2 hq
  · rw [he, he, rotF_fst (p := q) (by omega) q3 hhi (by omega), rotF_lo (by omega), show m + (q - i) = m by omega]
    exact hs.left p q1 (by omega)

/-- The search of symMerge. -/
def symQ (lt : α → α → Bool) (d : Array α) (p c : Nat) : Bool := lt d[p - c]! d[c]!
theorem sym_range {a m b mid s0 r0 : Nat} (hab : a < m) (hmb : m < b) (hmid : mid = (a + b) / 2) (h0 : (mid < m ∧ s0 + b = mid + m ∧ r0 = mid) ∨ (m ≤ mid ∧ s0 = a ∧ r0 = m)) :
    ∀ c, s0 ≤ c → c < r0 → a ≤ c ∧ c < m ∧ m ≤ mid + m - 1 - c ∧ mid + m - 1 - c < b ∧ c ≤ mid + m - 1 := fun c h1 h2 => by omega
theorem sym_mono {d : Array α} {a m b mid s0 r0 : Nat} (hw : SWO lt) (h1 : SortedIn lt a m d) (h2 : SortedIn lt m b d) (hr : ∀ c, s0 ≤ c → c < r0 → a ≤ c ∧ c < m ∧ m ≤ mid + m - 1 - c ∧ mid + m - 1 - c < b ∧ c ≤ mid + m - 1) : Mono (symQ lt d (mid + m - 1)) s0 r0 := fun c c' q1 q2 q3 hc => by
  unfold symQ at hc ⊢
  have e1 := hr c q1 (by omega)
  have e2 := hr c' (by omega) q3
  cases hk : lt d[mid + m - 1 - c']! d[c']! with
  | true => rfl
  | false =>
    have f1 := SortedIn.le' hw h2 (i := mid + m - 1 - c') (j := mid + m - 1 - c) (by omega) (by omega) (by omega)
    have f2 := SortedIn.le' hw h1 (i := c) (j := c') (by omega) q2 (by omega)
    have := hw.ntrans _ _ _ (hw.ntrans _ _ _ f1 hk) f2
    rw [this] at hc; cases hc
theorem sym_cut {d : Array α} {a m b mid s0 r0 s : Nat} (hw : SWO lt) (hab : a < m) (hmb : m < b) (h1 : SortedIn lt a m d) (h2 : SortedIn lt m b d) (hmid : mid = (a + b) / 2) (h0 : (mid < m ∧ s0 + b = mid + m ∧ r0 = mid) ∨ (m ≤ mid ∧ s0 = a ∧ r0 = m)) (h : SrI (symQ lt d (mid + m - 1)) s0 r0 s s) :
    a ≤ s ∧ s ≤ m ∧ s ≤ mid ∧ m ≤ mid + m - s ∧ mid + m - s ≤ b ∧ s + (mid + m - s - m) = mid ∧ (∀ i j, a ≤ i → i < s → mid + m - s ≤ j → j < b → lt d[j]! d[i]! = false) ∧ (∀ i j, m ≤ i → i < mid + m - s → s ≤ j → j < m → lt d[j]! d[i]! = false) := by
  have hlo := h.lo
  have hhi := h.hi
  refine ⟨by omega, by omega, by omega, by omega, by omega, by omega, fun i j i1 i2 j1 j2 => ?_, fun i j i1 i2 j1 j2 => ?_⟩
  · by_cases hs : s0 < s
    · have q := h.left (s - 1) (by omega) (by omega)
      unfold symQ at q
      rw [show mid + m - 1 - (s - 1) = mid + m - s by omega] at q
      have f1 := SortedIn.le' hw h2 (i := mid + m - s) (j := j) (by omega) j1 j2
      have f2 := SortedIn.le' hw h1 (i := i) (j := s - 1) i1 (by omega) (by omega)
      exact hw.ntrans _ _ _ (hw.ntrans _ _ _ f1 q) f2
    · exfalso; omega
  · by_cases hs : s < r0
    · have q := h.right s (Nat.le_refl _) hs
      unfold symQ at q
      have q' := hw.asymmA q
      have f1 := SortedIn.le' hw h1 (i := s) (j := j) (by omega) j1 j2
      have f2 := SortedIn.le' hw h2 (i := i) (j := mid + m - 1 - s) i1 (by omega) (by omega)
      exact hw.ntrans _ _ _ (hw.ntrans _ _ _ f1 q') f2
    · exfalso; omega
end
end Go.Proofs.YtkldomkooleecaaGreatDoor

/- Walks: swapRange_func and rotate_func of the stable sort, at a row of dependencies. -/
namespace Go.Proofs.YtkldomkooleecaaGreatDoor
open Go.RowKit Go.Sort

/-- The row of N dependencies in block g, and the slice at ob that leads to it. -/
structure MAt (dd : Nat) (S : Nat → Prop) (g cap ob N : Nat) (w : World) (d : Array El) : Prop where
  row : SR dd S w g cap d
  size : d.size = N
  ptr : w.cell? ⟨ob, 0, none⟩ = some (.slice (some ⟨g, 0, none⟩) N cap)
section
variable {dd : Nat} {S : Nat → Prop} {g cap ob N : Nat}
theorem MAt.kept {w w' : World} {d : Array El} (h : MAt dd S g cap ob N w d) (k : Kept [] w w') : MAt dd S g cap ob N w' d := ⟨h.row.kept k (by simp) (by simp), h.size, k.cell' h.ptr (by simp)⟩
theorem MAt.less {w : World} {d : Array El} (h : MAt dd S g cap ob N w d) (hn : N ≤ 100000) {i j : Nat} (hi : i < N) (hj : j < N) :
    Calls Tryz.prog 44 (#[.int .i64 i, .int .i64 j] ++ #[.pointer (some ⟨ob, 0, none⟩)]) w fun e w' => e = .returned (.bool (elLt d[i]! d[j]!)) ∧ Kept [] w w' ∧ MAt dd S g cap ob N w' d := by
  obtain ⟨h1, rfl, h3⟩ := h
  refine (h1.less h3 hn hi hj).mono ?_
  rintro e w' ⟨rfl, hk⟩
  exact ⟨rfl, hk, MAt.kept ⟨h1, rfl, h3⟩ hk⟩
theorem MAt.swap {sf : Nat} {sb : Array Value} {w : World} {d : Array El} (h : MAt dd S g cap ob N w d) (hne : ob ≠ g) (hsw : SwapSwapsK Tryz.prog sf sb El.enc 7 g 0 N) {i j : Nat} (hi : i < N) (hj : j < N) :
    ∃ w', (callFunc sf (#[.int .i64 i, .int .i64 j] ++ sb)).run Tryz.prog w = .ok (.value (.tuple #[])) w' ∧ MAt dd S g cap ob N w' (swp d i j) ∧ Kept [g] w w' := by
  obtain ⟨h1, rfl, h3⟩ := h
  obtain ⟨q1, q2⟩ := h1.swap hi hj
  exact ⟨_, hsw w d h1.holds rfl i j hi hj, ⟨q1, size_swp _ _ _, q2.cell' h3 (by simpa using hne)⟩, q2⟩

set_option maxHeartbeats 3200000 in
set_option maxRecDepth 100000 in
theorem swapRange (sf : Nat) (sb : Array Value) (lo hi p q n : Nat) (d : Array El) (w : World) (h : MAt dd S g cap ob N w d) (hne : ob ≠ g) (hsw : SwapSwapsK Tryz.prog sf sb El.enc 7 g 0 N) (hlo : lo ≤ p) (hpq : p + n ≤ q) (hq : q + n ≤ hi) (hhi : hi ≤ N) (hN : N ≤ 100000) :
    Calls Tryz.prog 106 #[.agg #[.func (.func 44) #[] #[.pointer (some ⟨ob, 0, none⟩)], .func (.func sf) #[] sb], .int .i64 p, .int .i64 q, .int .i64 n] w fun e w' =>
      e = .returned (.tuple #[]) ∧ ∃ d', MAt dd S g cap ob N w' d' ∧ SwR d d' lo hi p q n ∧ Kept [g] w w' := by
  have HSW := Lib.hid hsw
  have HS0 := Lib.hid h
  have hlt := h.row.lt
  have hsz := h.size
  clear h hsw
  go_enter Tryz.func106, Tryz.ntmps106
  go_wp2
  obtain ⟨wA, hwA⟩ : ∃ wA : World, wA = w.alloc (.cells #[.func (.func 44) #[] #[.pointer (some ⟨ob, 0, none⟩)], .func (.func sf) #[] sb] 117) := ⟨_, rfl⟩
  have hkA : Kept [] w wA := by rw [hwA]; exact (Kept.refl [] w).alloc _
  have HBA : Hid (Blk wA w.heap.size [.func (.func 44) #[] #[.pointer (some ⟨ob, 0, none⟩)], .func (.func sf) #[] sb] 117) := by rw [hwA]; exact Blk.new _ _ _
  rw [← hwA]
  clear hwA
  obtain ⟨A, hA⟩ : ∃ A, A = w.heap.size := ⟨_, rfl⟩
  rw [← hA] at HBA hlt ⊢
  clear hA
  have HSA := Lib.hid (HS0.out.kept hkA)
  have HSZ := Lib.hid hsz
  clear HS0 hsz
  have hAg : A ∉ [g] := by simp; omega
  go_loopw [8] (fun vi wr => ∃ (i : Nat) (dk : Array El), vi = .int .i64 i ∧ i ≤ n ∧ Hid (MAt dd S g cap ob N wr dk) ∧ Hid (SwR d dk lo hi p q i) ∧ Kept [g] wA wr) (fun vi _ => n - (intOf vi).toNat)
  case atStart => exact ⟨0, d, by go_num, Nat.zero_le _, HSA, SwR.zero _ _ _ _ _, Kept.refl _ _⟩
  case round =>
    obtain ⟨i, dk, rfl, hin, HM, HR, hkr⟩ := hrel
    obtain ⟨wo, hwo⟩ : ∃ wo : World, wo = wr := ⟨_, rfl⟩
    subst hwo
    have hbA := HBA.out.kept hkr hAg
    have c1 := hbA.cell 1 _ rfl
    clear hbA
    by_cases hlti : i < n
    · obtain ⟨w9, hs, hm9, hk9⟩ := HM.out.swap hne HSW.out (i := p + i) (j := q + i) (by omega) (by omega)
      have HM9 := Lib.hid hm9
      have HR9 := Lib.hid (HR.out.next hlo (by omega) (by omega) (by rw [HSZ.out]; omega))
      have HK9 := Lib.hid (hkr.trans hk9)
      clear hm9 hk9
      simp only [Int.natCast_add] at hs
      have hw1 : IntKind.i64.wrap ((p : Int) + (i : Int)) = (p : Int) + (i : Int) := IntWalk.i64_in _ (by omega)
      have hw2 : IntKind.i64.wrap ((q : Int) + (i : Int)) = (q : Int) + (i : Int) := IntWalk.i64_in _ (by omega)
      go_wp2
      go_roundw
      case rel => exact ⟨i + 1, swp dk (p + i) (q + i), by go_num, by omega, HM9, HR9, HK9.out⟩
      case measure => simp [intOf]; omega
    · go_wp2
      go_end0
      have hin' : i = n := by omega
      subst hin'
      exact ⟨rfl, dk, HM.out, HR.out, hkA.nil.trans hkr⟩

set_option maxHeartbeats 3200000 in
set_option maxRecDepth 100000 in
theorem rotate (sf : Nat) (sb : Array Value) (a m b : Nat) (d : Array El) (w : World) (h : MAt dd S g cap ob N w d) (hne : ob ≠ g) (hsw : SwapSwapsK Tryz.prog sf sb El.enc 7 g 0 N) (ham : a < m) (hmb : m < b) (hb : b ≤ N) (hN : N ≤ 100000) :
    Calls Tryz.prog 91 #[.agg #[.func (.func 44) #[] #[.pointer (some ⟨ob, 0, none⟩)], .func (.func sf) #[] sb], .int .i64 a, .int .i64 m, .int .i64 b] w fun e w' =>
      e = .returned (.tuple #[]) ∧ ∃ d', MAt dd S g cap ob N w' d' ∧ PermIn a b d d' ∧ (∀ x, d'[x]! = rotF d a m b x) ∧ Kept [g] w w' := by
  have HSW := Lib.hid hsw
  have HS0 := Lib.hid h
  have hlt := h.row.lt
  clear h hsw
  go_enter Tryz.func91, Tryz.ntmps91
  go_wp2
  obtain ⟨wA, hwA⟩ : ∃ wA : World, wA = w.alloc (.cells #[.func (.func 44) #[] #[.pointer (some ⟨ob, 0, none⟩)], .func (.func sf) #[] sb] 117) := ⟨_, rfl⟩
  have hkA : Kept [] w wA := by rw [hwA]; exact (Kept.refl [] w).alloc _
  have HBA : Hid (Blk wA w.heap.size [.func (.func 44) #[] #[.pointer (some ⟨ob, 0, none⟩)], .func (.func sf) #[] sb] 117) := by rw [hwA]; exact Blk.new _ _ _
  rw [← hwA]
  clear hwA
  obtain ⟨A, hA⟩ : ∃ A, A = w.heap.size := ⟨_, rfl⟩
  rw [← hA] at HBA hlt ⊢
  clear hA
  have HSA := Lib.hid (HS0.out.kept hkA)
  clear HS0
  have hAg : A ∉ [g] := by simp; omega
  go_loopw [8, 9] (fun vi vj wr => ∃ (i j : Nat) (dk : Array El), vi = .int .i64 i ∧ vj = .int .i64 j ∧ 0 < i ∧ 0 < j ∧ i ≤ m ∧ m + j ≤ b ∧ a + i ≤ m ∧ Hid (MAt dd S g cap ob N wr dk) ∧ Hid (RotI (rotF d a m b) dk a m b i j) ∧ Hid (PermIn a b d dk) ∧ Kept [g] wA wr) (fun vi vj _ => (intOf vi).toNat + (intOf vj).toNat)
  case atStart => exact ⟨m - a, b - m, d, by go_num, by go_num, by omega, by omega, by omega, by omega, by omega, HSA, RotI.start (by omega) (by omega), permIn_refl _ _ _, Kept.refl _ _⟩
  case round =>
    obtain ⟨i, j, dk, rfl, rfl, hi0, hj0, him, hmj, hai, HM, HR, HP, hkr⟩ := hrel
    obtain ⟨wo, hwo⟩ : ∃ wo : World, wo = wr := ⟨_, rfl⟩
    subst hwo
    have hbA := HBA.out.kept hkr hAg
    have c0 := hbA.cell 0 _ rfl
    have c1 := hbA.cell 1 _ rfl
    clear hbA
    by_cases heq : i = j
    · subst heq
      have hc := swapRange sf sb a b (m - i) m i dk wo HM.out hne HSW.out (by omega) (by omega) (by omega) hb hN
      rw [show ((m - i : Nat) : Int) = (m : Int) - (i : Int) by omega] at hc
      have HC := Lib.hid hc
      clear hc
      go_wp2_with (go_at_call 106; refine Calls.mono HC.out ?_; rintro e w' ⟨rfl, d', h1, h2, h3⟩; have H1 := Lib.hid h1; have H2 := Lib.hid h2; have H3 := Lib.hid h3; clear h1 h2 h3)
      go_end0
      exact ⟨rfl, d', H1.out, permIn_trans _ _ _ _ _ HP.out H2.out.perm, HR.out.last H2.out, (hkA.nil.trans hkr).trans H3.out⟩
    · by_cases hij : j < i
      · have hc := swapRange sf sb a b (m - i) m j dk wo HM.out hne HSW.out (by omega) (by omega) (by omega) hb hN
        rw [show ((m - i : Nat) : Int) = (m : Int) - (i : Int) by omega] at hc
        have HC := Lib.hid hc
        clear hc
        go_wp2_with (go_at_call 106; refine Calls.mono HC.out ?_; rintro e w' ⟨rfl, d', h1, h2, h3⟩; have H1 := Lib.hid h1; have H2 := Lib.hid h2; have H3 := Lib.hid h3; clear h1 h2 h3)
        go_roundw
        case rel => exact ⟨i - j, j, d', by go_num, by go_num, by omega, by omega, by omega, by omega, by omega, H1, HR.out.left hij H2.out, permIn_trans _ _ _ _ _ HP.out H2.out.perm, hkr.trans H3.out⟩
        case measure => simp [intOf]; omega
      · have hc := swapRange sf sb a b (m - i) (m + j - i) i dk wo HM.out hne HSW.out (by omega) (by omega) (by omega) hb hN
        rw [show ((m - i : Nat) : Int) = (m : Int) - (i : Int) by omega, show ((m + j - i : Nat) : Int) = (m : Int) + (j : Int) - (i : Int) by omega] at hc
        have HC := Lib.hid hc
        clear hc
        go_wp2_with (go_at_call 106; refine Calls.mono HC.out ?_; rintro e w' ⟨rfl, d', h1, h2, h3⟩; have H1 := Lib.hid h1; have H2 := Lib.hid h2; have H3 := Lib.hid h3; clear h1 h2 h3)
        go_roundw
        case rel => exact ⟨i, j - i, d', by go_num, by go_num, by omega, by omega, by omega, by omega, by omega, H1, HR.out.right (by omega) H2.out, permIn_trans _ _ _ _ _ HP.out H2.out.perm, hkr.trans H3.out⟩
        case measure => simp [intOf]; omega
end
end Go.Proofs.YtkldomkooleecaaGreatDoor

/- Walks: symMerge_func of the stable sort, at a row of dependencies. -/
namespace Go.Proofs.YtkldomkooleecaaGreatDoor
open Go.RowKit Go.Sort

section
variable {dd : Nat} {S : Nat → Prop} {g cap ob N : Nat}
/-- What a merge leaves. -/
structure Mrgd (dd : Nat) (S : Nat → Prop) (g cap ob N : Nat) (w w' : World) (a b : Nat) (d d' : Array El) : Prop where
  at' : MAt dd S g cap ob N w' d'
  perm : PermIn a b d d'
  sorted : SortedIn elLt a b d'
  kept : Kept [g] w w'

set_option maxHeartbeats 6400000 in
set_option maxRecDepth 100000 in
theorem symMerge (sf : Nat) (sb : Array Value) (hne : ob ≠ g) (hsw : SwapSwapsK Tryz.prog sf sb El.enc 7 g 0 N) (hN : N ≤ 100000) : ∀ (L a m b : Nat) (d : Array El) (w : World), b - a ≤ L → MAt dd S g cap ob N w d → a < m → m < b → b ≤ N → SortedIn elLt a m d → SortedIn elLt m b d →
    Calls Tryz.prog 83 #[.agg #[.func (.func 44) #[] #[.pointer (some ⟨ob, 0, none⟩)], .func (.func sf) #[] sb], .int .i64 a, .int .i64 m, .int .i64 b] w fun e w' =>
      e = .returned (.tuple #[]) ∧ ∃ d', Mrgd dd S g cap ob N w w' a b d d' := by
  have e44 : ∀ args w, (callFunc 44 args).run Tryz.prog w = .ok (.enter 44 args) w := enters_of Tryz.func44 (by kernel_rfl) rfl
  have HSW := Lib.hid hsw
  clear hsw
  intro L
  induction L with
  | zero => intro a m b d w h0 _ h1 h2; omega
  | succ L ih =>
    intro a m b d w hL h ham hmb hbN s1 s2
    have HIH := Lib.hid ih
    have HS0 := Lib.hid h
    have HS1 := Lib.hid s1
    have HS2 := Lib.hid s2
    have hlt := h.row.lt
    have HSZ := Lib.hid h.size
    clear h ih s1 s2
    go_enter Tryz.func83, Tryz.ntmps83
    go_upto_region 1 with fail
    obtain ⟨wA, hwA⟩ : ∃ wA : World, wA = w.alloc (.cells #[.func (.func 44) #[] #[.pointer (some ⟨ob, 0, none⟩)], .func (.func sf) #[] sb] 117) := ⟨_, rfl⟩
    have hkA : Kept [] w wA := by rw [hwA]; exact (Kept.refl [] w).alloc _
    have HBA : Hid (Blk wA w.heap.size [.func (.func 44) #[] #[.pointer (some ⟨ob, 0, none⟩)], .func (.func sf) #[] sb] 117) := by rw [hwA]; exact Blk.new _ _ _
    rw [← hwA]
    clear hwA
    obtain ⟨A, hA⟩ : ∃ A, A = w.heap.size := ⟨_, rfl⟩
    rw [← hA] at HBA hlt ⊢
    clear hA
    have HSA := Lib.hid (HS0.out.kept hkA)
    clear HS0
    have hAg : A ∉ [g] := by simp; omega
    by_cases hA1 : m - a = 1
    · have hma : (m : Int) - (a : Int) = 1 := by omega
      have HM1 : Hid (m = a + 1) := Lib.hid (by omega)
      have HMO : Hid (Mono (fun c => !(elLt d[c]! d[a]!)) m b) := Lib.hid (by rw [HM1.out]; exact first_mono elLt_swo (by rw [← HM1.out]; exact HS2.out))
      go_wp2
      go_loopw [8, 9] (fun vi vj wr => ∃ (i j : Nat), vi = .int .i64 i ∧ vj = .int .i64 j ∧ m ≤ i ∧ i ≤ j ∧ j ≤ b ∧ Hid (SrI (fun c => !(elLt d[c]! d[a]!)) m b i j) ∧ Hid (MAt dd S g cap ob N wr d) ∧ Kept [g] wA wr) (fun vi vj _ => (intOf vj).toNat - (intOf vi).toNat)
      case atStart => exact ⟨m, b, rfl, rfl, Nat.le_refl _, by omega, Nat.le_refl _, SrI.start (by omega), HSA, Kept.refl _ _⟩
      case round =>
        obtain ⟨i, j, rfl, rfl, hmi, hij, hjb, HS, HM, hkr⟩ := hrel
        obtain ⟨wo, hwo⟩ : ∃ wo : World, wo = wr := ⟨_, rfl⟩
        subst hwo
        by_cases hlt' : i < j
        · have hbA := HBA.out.kept hkr hAg
          have c0 := hbA.cell 0 _ rfl
          clear hbA
          have hl := HM.out.less hN (i := (i + j) / 2) (j := a) (by omega) (by omega)
          rw [show (((i + j) / 2 : Nat) : Int) = ((i : Int) + (j : Int)) / 2 by omega] at hl
          cases hlv : elLt d[(i + j) / 2]! d[a]! with
          | true =>
            rw [hlv] at hl
            have HUP := Lib.hid (HS.out.up HMO.out (c := (i + j) / 2) (by omega) (by omega) (by simp [hlv]))
            clear hlv
            go_wp2_with (go_at_fn 44; refine hl.mono ?_; rintro e w' ⟨rfl, hk9, hm9⟩; have HM9 := Lib.hid hm9; have hkr9 := hkr.trans hk9.nil; clear hk9 hm9)
            go_roundw
            case rel => exact ⟨(i + j) / 2 + 1, j, by go_num, rfl, by omega, by omega, hjb, HUP, HM9, hkr9⟩
            case measure => simp [intOf]; omega
          | false =>
            rw [hlv] at hl
            have HUP := Lib.hid (HS.out.down HMO.out (c := (i + j) / 2) (by omega) (by omega) (by simp [hlv]))
            clear hlv
            go_wp2_with (go_at_fn 44; refine hl.mono ?_; rintro e w' ⟨rfl, hk9, hm9⟩; have HM9 := Lib.hid hm9; have hkr9 := hkr.trans hk9.nil; clear hk9 hm9)
            go_roundw
            case rel => exact ⟨i, (i + j) / 2, rfl, by go_num, hmi, by omega, by omega, HUP, HM9, hkr9⟩
            case measure => simp [intOf]; omega
        · have hij' : j = i := by omega
          subst hij'
          go_wp2
          go_loopw [11] (fun vk wr => ∃ (k : Nat) (dk : Array El), vk = .int .i64 k ∧ a ≤ k ∧ k + 1 ≤ j ∧ Hid (MAt dd S g cap ob N wr dk) ∧ Hid (∀ p, dk[p]! = rotF d a (a + 1) (k + 1) p) ∧ Hid (PermIn a b d dk) ∧ Kept [g] wA wr) (fun vk _ => j - (intOf vk).toNat)
          case atStart => exact ⟨a, d, rfl, Nat.le_refl _, by omega, HM, fun p => rotF_right.symm, permIn_refl _ _ _, hkr⟩
          case round =>
            obtain ⟨k, dk, rfl, hak, hki, HMk, HEk, HPk, hkk⟩ := hrel
            obtain ⟨wi, hwi⟩ : ∃ wi : World, wi = wr := ⟨_, rfl⟩
            subst hwi
            have hbA := HBA.out.kept hkk hAg
            have c1 := hbA.cell 1 _ rfl
            clear hbA
            by_cases hki' : k + 1 < j
            · obtain ⟨w9, hs, hm9, hk9⟩ := HMk.out.swap hne HSW.out (i := k) (j := k + 1) (by omega) (by omega)
              have HM9 := Lib.hid hm9
              have HE9 := Lib.hid (shift_up HEk.out hak (by rw [HMk.out.size]; omega))
              have HP9 := Lib.hid (permIn_trans _ _ _ _ _ HPk.out (swp_permIn dk a b k (k + 1) hak (by omega) (by omega) (by omega) (by rw [HMk.out.size]; exact hbN)))
              have HK9 := Lib.hid (hkk.trans hk9)
              clear hm9 hk9
              rw [show ((k + 1 : Nat) : Int) = (k : Int) + 1 by omega] at hs
              have hci : (k : Int) < (j : Int) - 1 := by omega
              go_wp2
              go_roundw
              case rel => exact ⟨k + 1, swp dk k (k + 1), by go_num, by omega, by omega, HM9, HE9, HP9, HK9.out⟩
              case measure => simp [intOf]; omega
            · have hci : ¬ (k : Int) < (j : Int) - 1 := by omega
              have hkj : k + 1 = j := by omega
              go_wp2
              refine bodyPost_ret (results_none rfl _ _ _) rfl ?_
              refine ⟨rfl, dk, HMk.out, HPk.out, ?_, hkA.nil.trans hkk⟩
              have hE := HEk.out
              rw [hkj] at hE
              exact first_done elLt_swo (by rw [← HM1.out]; exact HS2.out) (by rw [← HM1.out]; exact HS.out) hE
    · have hma : ((m : Int) - (a : Int) == 1) = false := by simp; omega
      by_cases hB1 : b - m = 1
      · have hbm : ((b : Int) - (m : Int) == 1) = true := by simp; omega
        have HMO : Hid (Mono (fun c => elLt d[m]! d[c]!) a m) := Lib.hid (last_mono elLt_swo HS1.out)
        go_wp2
        go_loopw [12, 13] (fun vi vj wr => ∃ (i j : Nat), vi = .int .i64 i ∧ vj = .int .i64 j ∧ a ≤ i ∧ i ≤ j ∧ j ≤ m ∧ Hid (SrI (fun c => elLt d[m]! d[c]!) a m i j) ∧ Hid (MAt dd S g cap ob N wr d) ∧ Kept [g] wA wr) (fun vi vj _ => (intOf vj).toNat - (intOf vi).toNat)
        case atStart => exact ⟨a, m, rfl, rfl, Nat.le_refl _, by omega, Nat.le_refl _, SrI.start (by omega), HSA, Kept.refl _ _⟩
        case round =>
          obtain ⟨i, j, rfl, rfl, hmi, hij, hjb, HS, HM, hkr⟩ := hrel
          obtain ⟨wo, hwo⟩ : ∃ wo : World, wo = wr := ⟨_, rfl⟩
          subst hwo
          by_cases hlt' : i < j
          · have hbA := HBA.out.kept hkr hAg
            have c0 := hbA.cell 0 _ rfl
            clear hbA
            have hl := HM.out.less hN (i := m) (j := (i + j) / 2) (by omega) (by omega)
            rw [show (((i + j) / 2 : Nat) : Int) = ((i : Int) + (j : Int)) / 2 by omega] at hl
            cases hlv : elLt d[m]! d[(i + j) / 2]! with
            | false =>
              rw [hlv] at hl
              have HUP := Lib.hid (HS.out.up HMO.out (c := (i + j) / 2) (by omega) (by omega) hlv)
              clear hlv
              go_wp2_with (go_at_fn 44; refine hl.mono ?_; rintro e w' ⟨rfl, hk9, hm9⟩; have HM9 := Lib.hid hm9; have hkr9 := hkr.trans hk9.nil; clear hk9 hm9)
              go_roundw
              case rel => exact ⟨(i + j) / 2 + 1, j, by go_num, rfl, by omega, by omega, hjb, HUP, HM9, hkr9⟩
              case measure => simp [intOf]; omega
            | true =>
              rw [hlv] at hl
              have HUP := Lib.hid (HS.out.down HMO.out (c := (i + j) / 2) (by omega) (by omega) hlv)
              clear hlv
              go_wp2_with (go_at_fn 44; refine hl.mono ?_; rintro e w' ⟨rfl, hk9, hm9⟩; have HM9 := Lib.hid hm9; have hkr9 := hkr.trans hk9.nil; clear hk9 hm9)
              go_roundw
              case rel => exact ⟨i, (i + j) / 2, rfl, by go_num, hmi, by omega, by omega, HUP, HM9, hkr9⟩
              case measure => simp [intOf]; omega
          · have hij' : j = i := by omega
            subst hij'
            go_wp2
            go_loopw [15] (fun vk wr => ∃ (k : Nat) (dk : Array El), vk = .int .i64 k ∧ j ≤ k ∧ k ≤ m ∧ Hid (MAt dd S g cap ob N wr dk) ∧ Hid (∀ p, dk[p]! = rotF d k m (m + 1) p) ∧ Hid (PermIn a b d dk) ∧ Kept [g] wA wr) (fun vk _ => (intOf vk).toNat)
            case atStart => exact ⟨m, d, rfl, by omega, Nat.le_refl _, HM, fun p => rotF_left.symm, permIn_refl _ _ _, hkr⟩
            case round =>
              obtain ⟨k, dk, rfl, hak, hki, HMk, HEk, HPk, hkk⟩ := hrel
              obtain ⟨wi, hwi⟩ : ∃ wi : World, wi = wr := ⟨_, rfl⟩
              subst hwi
              have hbA := HBA.out.kept hkk hAg
              have c1 := hbA.cell 1 _ rfl
              clear hbA
              by_cases hki' : j < k
              · obtain ⟨w9, hs, hm9, hk9⟩ := HMk.out.swap hne HSW.out (i := k) (j := k - 1) (by omega) (by omega)
                have HM9 := Lib.hid hm9
                have he9 := shift_down (k := k - 1) (e := dk) (d := d) (m := m) (by rw [show k - 1 + 1 = k by omega]; exact HEk.out) (by omega) (by rw [HMk.out.size]; omega)
                rw [show k - 1 + 1 = k by omega] at he9
                have HE9 := Lib.hid he9
                have HP9 := Lib.hid (permIn_trans _ _ _ _ _ HPk.out (swp_permIn dk a b k (k - 1) (by omega) (by omega) (by omega) (by omega) (by rw [HMk.out.size]; exact hbN)))
                have HK9 := Lib.hid (hkk.trans hk9)
                clear hm9 hk9 he9
                rw [show ((k - 1 : Nat) : Int) = (k : Int) - 1 by omega] at hs
                go_wp2
                go_roundw
                case rel => exact ⟨k - 1, swp dk k (k - 1), by go_num, by omega, by omega, HM9, HE9, HP9, HK9.out⟩
                case measure => simp [intOf]; omega
              · have hkj : k = j := by omega
                subst hkj
                go_wp2
                refine bodyPost_ret (results_none rfl _ _ _) rfl ?_
                refine ⟨rfl, dk, HMk.out, HPk.out, ?_, hkA.nil.trans hkk⟩
                rw [show b = m + 1 by omega]
                exact last_done elLt_swo HS1.out HS.out HEk.out
      · have hbm : ((b : Int) - (m : Int) == 1) = false := by simp; omega
        obtain ⟨mid, hmid⟩ : ∃ mid, mid = (a + b) / 2 := ⟨_, rfl⟩
        have hmd : ((a : Int) + (b : Int)) / 2 = (mid : Int) := by omega
        have HMD := Lib.hid hmid
        have hmidb : a + 2 ≤ mid ∧ mid + 2 ≤ b := by omega
        obtain ⟨hmid1, hmid2⟩ := hmidb
        clear hmid
        go_upto_region 28 with fail
        go_upto_if 106 with fail
        go_cut [18, 19] from 104 (fun v18 v19 wx => ∃ s0 r0 : Nat, v18 = .int .i64 s0 ∧ v19 = .int .i64 r0 ∧ Hid ((mid < m ∧ s0 + b = mid + m ∧ r0 = mid) ∨ (m ≤ mid ∧ s0 = a ∧ r0 = m)) ∧ wA = wx)
        case first =>
          by_cases hmm : mid < m
          · go_wp2_with fail
            go_meet
            exact ⟨mid + m - b, mid, by go_num, rfl, .inl ⟨hmm, by omega, rfl⟩, rfl⟩
          · go_wp2_with fail
            go_meet
            exact ⟨a, m, rfl, rfl, .inr ⟨by omega, rfl, rfl⟩, rfl⟩
        case rest =>
          obtain ⟨s0, r0, rfl, rfl, H0, rfl⟩ := hcut
          have HR := Lib.hid (sym_range ham hmb HMD.out H0.out)
          have HMO := Lib.hid (sym_mono elLt_swo HS1.out HS2.out HR.out)
          have hr0 : s0 ≤ r0 ∧ r0 ≤ m ∧ a ≤ s0 ∧ r0 ≤ mid := by have := H0.out; omega
          obtain ⟨hr1, hr2, hr3, hr4⟩ := hr0
          go_wp2
          go_loopw [18, 19] (fun vi vj wr => ∃ (i j : Nat), vi = .int .i64 i ∧ vj = .int .i64 j ∧ s0 ≤ i ∧ i ≤ j ∧ j ≤ r0 ∧ Hid (SrI (symQ elLt d (mid + m - 1)) s0 r0 i j) ∧ Hid (MAt dd S g cap ob N wr d) ∧ Kept [g] wA wr) (fun vi vj _ => (intOf vj).toNat - (intOf vi).toNat)
          case atStart => exact ⟨s0, r0, rfl, rfl, Nat.le_refl _, by omega, Nat.le_refl _, SrI.start (by omega), HSA, Kept.refl _ _⟩
          case round =>
            obtain ⟨i, j, rfl, rfl, hmi, hij, hjb, HS, HM, hkr⟩ := hrel
            obtain ⟨wo, hwo⟩ : ∃ wo : World, wo = wr := ⟨_, rfl⟩
            subst hwo
            by_cases hlt' : i < j
            · have hbA := HBA.out.kept hkr hAg
              have c0 := hbA.cell 0 _ rfl
              clear hbA
              have hrc := HR.out ((i + j) / 2) (by omega) (by omega)
              have hl := HM.out.less hN (i := mid + m - 1 - (i + j) / 2) (j := (i + j) / 2) (by omega) (by omega)
              have hcm : (i + j) / 2 + 1 ≤ mid + m := by omega
              clear hrc
              rw [show ((mid + m - 1 - (i + j) / 2 : Nat) : Int) = (mid : Int) + (m : Int) - 1 - ((i : Int) + (j : Int)) / 2 by omega, show (((i + j) / 2 : Nat) : Int) = ((i : Int) + (j : Int)) / 2 by omega] at hl
              cases hlv : elLt d[mid + m - 1 - (i + j) / 2]! d[(i + j) / 2]! with
              | false =>
                rw [hlv] at hl
                have HUP := Lib.hid (HS.out.up HMO.out (c := (i + j) / 2) (by omega) (by omega) hlv)
                clear hlv
                go_wp2_with (go_at_fn 44; refine hl.mono ?_; rintro e w' ⟨rfl, hk9, hm9⟩; have HM9 := Lib.hid hm9; have hkr9 := hkr.trans hk9.nil; clear hk9 hm9)
                go_roundw
                case rel => exact ⟨(i + j) / 2 + 1, j, by go_num, rfl, by omega, by omega, hjb, HUP, HM9, hkr9⟩
                case measure => simp [intOf]; omega
              | true =>
                rw [hlv] at hl
                have HUP := Lib.hid (HS.out.down HMO.out (c := (i + j) / 2) (by omega) (by omega) hlv)
                clear hlv
                go_wp2_with (go_at_fn 44; refine hl.mono ?_; rintro e w' ⟨rfl, hk9, hm9⟩; have HM9 := Lib.hid hm9; have hkr9 := hkr.trans hk9.nil; clear hk9 hm9)
                go_roundw
                case rel => exact ⟨i, (i + j) / 2, rfl, by go_num, hmi, by omega, by omega, HUP, HM9, hkr9⟩
                case measure => simp [intOf]; omega
            · have hij' : j = i := by omega
              subst hij'
              obtain ⟨q1, q2, q3, q4, q5, q6, q7, q8⟩ := sym_cut elLt_swo ham hmb HS1.out HS2.out HMD.out H0.out HS.out
              have HQA := Lib.hid q7
              have HQB := Lib.hid q8
              clear q7 q8
              obtain ⟨t, ht⟩ : ∃ t, t = mid + m - j := ⟨_, rfl⟩
              have htI : (mid : Int) + (m : Int) - (j : Int) = (t : Int) := by omega
              rw [← ht] at q4 q5 q6 HQA HQB
              have HTM : Hid (t + j = mid + m) := Lib.hid (by omega)
              clear ht
              have HROT : Hid (j < m → m < t → Calls Tryz.prog 91 #[.agg #[.func (.func 44) #[] #[.pointer (some ⟨ob, 0, none⟩)], .func (.func sf) #[] sb], .int .i64 j, .int .i64 m, .int .i64 t] wo fun e w' =>
                  e = .returned (.tuple #[]) ∧ ∃ d', MAt dd S g cap ob N w' d' ∧ PermIn j t d d' ∧ (∀ x, d'[x]! = rotF d j m t x) ∧ Kept [g] wo w') := Lib.hid fun h1 h2 => rotate sf sb j m t d wo HM.out hne HSW.out h1 h2 (by omega) hN
              go_upto_region 40 with fail
              go_cut [145] from 138 (fun v wx => v = .bool (decide (j < m ∧ m < t)) ∧ wo = wx)
              case first =>
                by_cases hc1 : j < m
                all_goals
                  go_wp2_with fail
                  go_meet
                  exact ⟨by simp [hc1], rfl⟩
              case rest =>
                obtain ⟨rfl, rfl⟩ := hcut
                go_upto_if 145 with fail
                go_cut [145] from 146 (fun _ wx => ∃ e : Array El, Hid (MAt dd S g cap ob N wx e) ∧ Hid (PermIn j t d e) ∧ Hid (∀ x, e[x]! = rotF d j m t x) ∧ Kept [g] wo wx)
                case first =>
                  by_cases hc1 : j < m ∧ m < t
                  · obtain ⟨hc2, hc3⟩ := hc1
                    have hdt : decide (j < m ∧ m < t) = true := by simp [hc2, hc3]
                    have hbA := HBA.out.kept hkr hAg
                    have c0 := hbA.cell 0 _ rfl
                    have c1 := hbA.cell 1 _ rfl
                    clear hbA
                    go_wp2_with (go_at_call 91; refine Calls.mono (HROT.out hc2 hc3) ?_; rintro e w' ⟨rfl, d', h1, h2, h3, h4⟩; have H1 := Lib.hid h1; have H2 := Lib.hid h2; have H3 := Lib.hid h3; have H4 := Lib.hid h4; clear h1 h2 h3 h4)
                    go_meet
                    exact ⟨d', H1, H2, H3, H4.out⟩
                  · have hdt : decide (j < m ∧ m < t) = false := by simp only [decide_eq_false_iff_not]; exact hc1
                    go_wp2_with fail
                    go_meet
                    refine ⟨d, HM, permIn_refl _ _ _, fun x => ?_, Kept.refl _ _⟩
                    by_cases hjm : j = m
                    · rw [hjm]; exact rotF_left.symm
                    · rw [show t = m by omega]; exact rotF_right.symm
                case rest =>
                  obtain ⟨e1, HM1, HP1, HE1, hk1⟩ := hcut
                  obtain ⟨rs1, rs2, rs3, rs4⟩ := rot_sorted HS1.out HS2.out q1 q2 q4 q5 HE1.out
                  have hcr := rot_cross HS1.out HS2.out q1 q2 q4 q5 HE1.out HQA.out HQB.out
                  rw [q6] at rs2 rs3 hcr
                  have HRS1 := Lib.hid rs1
                  have HRS2 := Lib.hid rs2
                  have HRS3 := Lib.hid rs3
                  have HRS4 := Lib.hid rs4
                  have HCR := Lib.hid hcr
                  have HSZ1 := Lib.hid HM1.out.size
                  have HPD : Hid (PermIn a b d e1) := Lib.hid (permIn_mono _ _ j t _ _ q1 q5 (by rw [HSZ.out]; exact hbN) HP1.out)
                  clear rs1 rs2 rs3 rs4 hcr HE1 HP1 HQA HQB HROT HS HS1 HS2
                  obtain ⟨w1, hw1⟩ : ∃ w1 : World, w1 = wc := ⟨_, rfl⟩
                  subst hw1
                  have hk1A := hkr.trans hk1
                  have HTA : Hid (a < j → j < mid → Calls Tryz.prog 83 #[.agg #[.func (.func 44) #[] #[.pointer (some ⟨ob, 0, none⟩)], .func (.func sf) #[] sb], .int .i64 a, .int .i64 j, .int .i64 mid] w1 fun e w' =>
                      e = .returned (.tuple #[]) ∧ ∃ d', Mrgd dd S g cap ob N w1 w' a mid e1 d') := Lib.hid fun h1 h2 => HIH.out a j mid e1 w1 (by omega) HM1.out h1 h2 (by omega) HRS1.out HRS2.out
                  go_upto_region 42 with fail
                  go_cut [158] from 151 (fun v wx => v = .bool (decide (a < j ∧ j < mid)) ∧ w1 = wx)
                  case first =>
                    by_cases hc1 : a < j
                    all_goals
                      go_wp2_with fail
                      go_meet
                      exact ⟨by simp [hc1], rfl⟩
                  case rest =>
                    obtain ⟨rfl, rfl⟩ := hcut
                    go_upto_if 158 with fail
                    go_cut [158] from 159 (fun _ wx => ∃ e : Array El, Hid (Mrgd dd S g cap ob N w1 wx a mid e1 e))
                    case first =>
                      by_cases hc1 : a < j ∧ j < mid
                      · obtain ⟨hc2, hc3⟩ := hc1
                        have hdt : decide (a < j ∧ j < mid) = true := by simp [hc2, hc3]
                        have hbA := HBA.out.kept hk1A hAg
                        have c0 := hbA.cell 0 _ rfl
                        have c1 := hbA.cell 1 _ rfl
                        clear hbA
                        go_wp2_with (go_at_call 83; refine Calls.mono (HTA.out hc2 hc3) ?_; rintro e w' ⟨rfl, d', h1⟩; have H1 := Lib.hid h1; clear h1)
                        go_meet
                        exact ⟨d', H1⟩
                      · have hdt : decide (a < j ∧ j < mid) = false := by simp only [decide_eq_false_iff_not]; exact hc1
                        go_wp2_with fail
                        go_meet
                        refine ⟨e1, HM1.out, permIn_refl _ _ _, ?_, Kept.refl _ _⟩
                        by_cases haj : a = j
                        · rw [haj]; exact HRS2.out
                        · rw [show mid = j by omega]; exact HRS1.out
                    case rest =>
                      obtain ⟨e2, HG2⟩ := hcut
                      obtain ⟨w2, hw2⟩ : ∃ w2 : World, w2 = wc := ⟨_, rfl⟩
                      subst hw2
                      have hk2A := hk1A.trans HG2.out.kept
                      have HTB : Hid (mid < t → t < b → Calls Tryz.prog 83 #[.agg #[.func (.func 44) #[] #[.pointer (some ⟨ob, 0, none⟩)], .func (.func sf) #[] sb], .int .i64 mid, .int .i64 t, .int .i64 b] w2 fun e w' =>
                          e = .returned (.tuple #[]) ∧ ∃ d', Mrgd dd S g cap ob N w2 w' mid b e2 d') := Lib.hid fun h1 h2 => HIH.out mid t b e2 w2 (by omega) HG2.out.at' h1 h2 hbN (sorted_same HRS3.out fun i i1 _ => HG2.out.perm.2.1 i (.inr i1)) (sorted_same HRS4.out fun i i1 _ => HG2.out.perm.2.1 i (.inr (by omega)))
                      have HFIN : Hid (∀ (w' : World) (e3 : Array El), Mrgd dd S g cap ob N w2 w' mid b e2 e3 → Mrgd dd S g cap ob N w w' a b d e3) := Lib.hid fun w' e3 h => by
                        obtain ⟨f1, f2⟩ := join_perm HCR.out (by omega) (by omega) (by rw [HSZ1.out]; exact hbN) HG2.out.perm HG2.out.sorted h.perm h.sorted
                        exact ⟨h.at', permIn_trans _ _ _ _ _ HPD.out f1, f2, (hkA.nil.trans hk2A).trans h.kept⟩
                      have HKEEP : Hid (¬ (mid < t ∧ t < b) → Mrgd dd S g cap ob N w2 w2 mid b e2 e2) := Lib.hid fun h => by
                        refine ⟨HG2.out.at', permIn_refl _ _ _, ?_, Kept.refl _ _⟩
                        refine sorted_same (d := e1) ?_ fun i i1 _ => HG2.out.perm.2.1 i (.inr i1)
                        by_cases hmt : mid = t
                        · rw [hmt]; exact HRS4.out
                        · rw [show b = t by omega]; exact HRS3.out
                      clear HIH HTA HM1 HRS1 HRS2 HRS3 HRS4 HCR HPD HSZ1
                      go_upto_region 44 with fail
                      go_cut [171] from 164 (fun v wx => v = .bool (decide (mid < t ∧ t < b)) ∧ w2 = wx)
                      case first =>
                        by_cases hc1 : mid < t
                        all_goals
                          go_wp2_with fail
                          go_meet
                          exact ⟨by simp [hc1], rfl⟩
                      case rest =>
                        obtain ⟨rfl, rfl⟩ := hcut
                        by_cases hc1 : mid < t ∧ t < b
                        · obtain ⟨hc2, hc3⟩ := hc1
                          have hdt : decide (mid < t ∧ t < b) = true := by simp [hc2, hc3]
                          have hbA := HBA.out.kept hk2A hAg
                          have c0 := hbA.cell 0 _ rfl
                          have c1 := hbA.cell 1 _ rfl
                          clear hbA
                          go_wp2_with (go_at_call 83; refine Calls.mono (HTB.out hc2 hc3) ?_; rintro e w' ⟨rfl, d', h1⟩; have H1 := Lib.hid h1; clear h1)
                          go_end0
                          exact ⟨rfl, d', HFIN.out _ _ H1.out⟩
                        · have hdt : decide (mid < t ∧ t < b) = false := by simp only [decide_eq_false_iff_not]; exact hc1
                          go_wp2_with fail
                          go_end0
                          exact ⟨rfl, e2, HFIN.out _ _ (HKEEP.out hc1)⟩
end
end Go.Proofs.YtkldomkooleecaaGreatDoor
