/- What strconv.Quote gives tells the string: plain facts on lists of numbers. No program is in sight here. -/
import Derived.Lib.QuoteLoop
namespace Go.Proofs.YtkldomkooleecaaGreatDoor
open Go.Lib

def unhex (x : Int) : Int := if x < 58 then x - 48 else x - 87
theorem unhex_digit (n : Nat) (h : n < 16) : unhex (hexDigit n) = n := by
  unfold unhex hexDigit
  by_cases h1 : n < 10
  · rw [if_pos h1, if_pos (by omega)]; omega
  · rw [if_neg h1, if_neg (by omega)]; omega
/-- n digits read. -/
def undigits : Nat → Int → List Int → Option (Int × List Int)
  | 0, a, l => some (a, l)
  | _ + 1, _, [] => none
  | n + 1, a, x :: l => undigits n (16 * a + unhex x) l
theorem undigits_hex (r : Nat) : ∀ (n : Nat) (a : Int) (t : List Int), undigits n a (hexDigits r n ++ t) = some (a * 16 ^ n + ((r % 16 ^ n : Nat) : Int), t)
  | 0, a, t => by simp [undigits, hexDigits, Nat.mod_one]
  | n + 1, a, t => by
    rw [hexDigits, List.cons_append, undigits, unhex_digit _ (Nat.mod_lt _ (by decide)), undigits_hex r n]
    congr 2
    rw [Nat.mod_pow_succ]
    have e : ((16 : Int) * a + ((r / 16 ^ n % 16 : Nat) : Int)) * 16 ^ n = a * 16 ^ (n + 1) + ((16 ^ n * (r / 16 ^ n % 16) : Nat) : Int) := by
      rw [Int.add_mul, Int.pow_succ, Int.natCast_mul, Int.natCast_pow]
      have h1 : (16 : Int) * a * 16 ^ n = a * (16 ^ n * 16) := by rw [Int.mul_comm 16 a, Int.mul_assoc, Int.mul_comm 16]
      rw [h1, Int.mul_comm ((r / 16 ^ n % 16 : Nat) : Int)]
      rfl
    rw [e]
    rw [Int.natCast_add]
    omega

def esc (c : Int) : Int := if c = 97 then 7 else if c = 98 then 8 else if c = 102 then 12 else if c = 110 then 10 else if c = 114 then 13 else if c = 116 then 9 else if c = 118 then 11 else c
/-- One step undone: the bytes that it stands for, and what follows. -/
def unstep (l : List Int) : Option (List Int × List Int) :=
  match l with
  | [] => none
  | x :: l =>
    if x = 34 then none
    else if x = 92 then
      (match l with
      | [] => none
      | c :: l =>
        if c = 120 then (undigits 2 0 l).map fun p => ([p.1], p.2)
        else if c = 117 then (undigits 4 0 l).map fun p => (encodeRuneZ p.1, p.2)
        else if c = 85 then (undigits 8 0 l).map fun p => (encodeRuneZ p.1, p.2)
        else some ([esc c], l))
    else if x < 128 then some ([x], l)
    else if x < 224 then some (x :: l.take 1, l.drop 1)
    else if x < 240 then some (x :: l.take 2, l.drop 2)
    else some (x :: l.take 3, l.drop 3)

theorem unstep_enc {r : Int} (h : validRune r = true) (h1 : r ≠ 34) (h2 : r ≠ 92) (t : List Int) : unstep (encodeRuneZ r ++ t) = some (encodeRuneZ r, t) := by
  simp only [validRune, decide_eq_true_eq] at h
  by_cases c1 : r ≤ 127
  · rw [encodeRuneZ_one (by omega) c1]
    simp only [List.cons_append, List.nil_append, unstep]
    rw [if_neg h1, if_neg h2, if_pos (by omega)]
  by_cases c2 : r ≤ 2047
  · rw [encodeRuneZ_two (by omega) c2]
    simp only [List.cons_append, List.nil_append, unstep]
    rw [if_neg (by omega), if_neg (by omega), if_neg (by omega), if_pos (by omega)]
    rfl
  by_cases c3 : r ≤ 65535
  · rw [encodeRuneZ_three (by omega)]
    simp only [List.cons_append, List.nil_append, unstep]
    rw [if_neg (by omega), if_neg (by omega), if_neg (by omega), if_neg (by omega), if_pos (by omega)]
    rfl
  · rw [encodeRuneZ_four (by omega) (by omega)]
    simp only [List.cons_append, List.nil_append, unstep]
    rw [if_neg (by omega), if_neg (by omega), if_neg (by omega), if_neg (by omega), if_neg (by omega)]
    rfl
theorem unstep_x (a : Int) (l t : List Int) (h : undigits 2 0 (l ++ t) = some (a, t)) : unstep (92 :: 120 :: (l ++ t)) = some ([a], t) := by
  simp [unstep, h]
theorem unstep_c (c : Int) (h1 : c ≠ 120) (h2 : c ≠ 117) (h3 : c ≠ 85) (t : List Int) : unstep (92 :: c :: t) = some ([esc c], t) := by
  simp [unstep, h1, h2, h3]
theorem two_digits (n : Nat) (h : n < 256) (t : List Int) : undigits 2 0 ([hexDigit (n / 16), hexDigit (n % 16)] ++ t) = some ((n : Int), t) := by
  simp only [List.cons_append, List.nil_append, undigits, unhex_digit _ (show n / 16 < 16 by omega), unhex_digit _ (show n % 16 < 16 by omega)]
  congr 2
  omega
set_option maxHeartbeats 1000000 in
theorem unstep_esc (T : PrintTabs) {r : Int} (h : validRune r = true) (t : List Int) : unstep (escRune T r ++ t) = some (encodeRuneZ r, t) := by
  have hv := h
  simp only [validRune, decide_eq_true_eq] at h
  have one : r ≤ 127 → encodeRuneZ r = [r] := fun h1 => encodeRuneZ_one (by omega) h1
  unfold escRune
  by_cases c0 : r = 34 ∨ r = 92
  · rw [if_pos c0]
    show unstep (92 :: r :: t) = _
    rw [unstep_c r (by omega) (by omega) (by omega), one (by omega)]
    rcases c0 with rfl | rfl <;> rfl
  rw [if_neg c0]
  by_cases c1 : isPrintR T r = true
  · rw [if_pos c1]
    exact unstep_enc hv (by omega) (by omega) t
  rw [if_neg c1]
  by_cases c2 : r = 7
  · rw [if_pos c2]; subst c2; rfl
  rw [if_neg c2]
  by_cases c3 : r = 8
  · rw [if_pos c3]; subst c3; rfl
  rw [if_neg c3]
  by_cases c4 : r = 12
  · rw [if_pos c4]; subst c4; rfl
  rw [if_neg c4]
  by_cases c5 : r = 10
  · rw [if_pos c5]; subst c5; rfl
  rw [if_neg c5]
  by_cases c6 : r = 13
  · rw [if_pos c6]; subst c6; rfl
  rw [if_neg c6]
  by_cases c7 : r = 9
  · rw [if_pos c7]; subst c7; rfl
  rw [if_neg c7]
  by_cases c8 : r = 11
  · rw [if_pos c8]; subst c8; rfl
  rw [if_neg c8]
  by_cases c9 : r < 32 ∨ r = 127
  · rw [if_pos c9]
    have := unstep_x ((r.toNat : Nat) : Int) [hexDigit (r.toNat / 16), hexDigit (r.toNat % 16)] t (two_digits r.toNat (by omega) t)
    rw [one (by omega)]
    rw [show ((r.toNat : Nat) : Int) = r by omega] at this
    exact this
  rw [if_neg c9]
  rw [if_neg (by rw [hv]; decide)]
  by_cases c11 : r < 65536
  · rw [if_pos c11]
    show unstep (92 :: 117 :: (hexDigits r.toNat 4 ++ t)) = _
    have := undigits_hex r.toNat 4 0 t
    simp only [unstep]
    rw [if_neg (by decide), if_pos trivial, if_neg (by decide), if_pos trivial, this]
    simp only [Option.map_some]
    rw [show (0 : Int) * 16 ^ 4 + ((r.toNat % 16 ^ 4 : Nat) : Int) = r by omega]
  · rw [if_neg c11]
    show unstep (92 :: 85 :: (hexDigits r.toNat 8 ++ t)) = _
    have := undigits_hex r.toNat 8 0 t
    simp only [unstep]
    rw [if_neg (by decide), if_pos trivial, if_neg (by decide), if_neg (by decide), if_pos trivial, this]
    simp only [Option.map_some]
    rw [show (0 : Int) * 16 ^ 8 + ((r.toNat % 16 ^ 8 : Nat) : Int) = r by omega]

/-- The bytes of a string as numbers. -/
def nums (s : ByteArray) : List Int := s.data.toList.map fun c => (c.toNat : Int)
theorem nums_inj {s s' : ByteArray} (h : nums s = nums s') : s = s' := by
  have hinj : ∀ l m : List UInt8, l.map (fun c => (c.toNat : Int)) = m.map (fun c => (c.toNat : Int)) → l = m := by
    intro l
    induction l with
    | nil => intro m h; cases m with | nil => rfl | cons => simp at h
    | cons a l ih =>
      intro m h
      cases m with
      | nil => simp at h
      | cons b m =>
        simp only [List.map_cons, List.cons.injEq] at h
        rw [ih m h.2, UInt8.toNat_inj.1 (show a.toNat = b.toNat by omega)]
  have := hinj _ _ h
  cases s; cases s'
  simp at this
  rw [show (_ : Array UInt8) = _ from this]
theorem nums_length (s : ByteArray) : (nums s).length = s.size := by unfold nums; rw [List.length_map, Array.length_toList]; rfl
theorem nums_get (s : ByteArray) (k : Nat) (h : k < s.size) : (nums s)[k]? = some (((s.get! k).toNat : Nat) : Int) := by
  have hk : k < s.data.size := h
  have e : s.get! k = s.data[k] := by
    cases s with
    | mk d => exact getElem!_pos d k hk
  unfold nums
  rw [List.getElem?_map, Array.getElem?_toList, Array.getElem?_eq_getElem hk, e]
  rfl
theorem nums_rest (s : ByteArray) (k : Nat) : nums (s.extract k s.size) = (nums s).drop k := by
  have e : (s.extract k s.size).data.toList = s.data.toList.drop k := by
    rw [ByteArray.data_extract, Array.toList_extract, List.extract_eq_take_drop]
    exact List.take_of_length_le (by rw [List.length_drop, Array.length_toList]; exact Nat.le_refl _)
  unfold nums
  rw [e, List.map_drop]

theorem dec_enc (n b0 b1 b2 b3 : Nat) (h0 : b0 < 256) (h1 : b1 < 256) (h2 : b2 < 256) (_h3 : b3 < 256) (hg : ¬ ((decodeN n b0 b1 b2 b3).2 = 1 ∧ (decodeN n b0 b1 b2 b3).1 = 65533)) :
    encodeRuneZ ((decodeN n b0 b1 b2 b3).1 : Int) = ([(b0 : Int), b1, b2, b3]).take (decodeN n b0 b1 b2 b3).2 := by
  revert hg
  unfold decodeN
  split
  · intro _
    rw [encodeRuneZ_one (by omega) (by simp only; omega)]
    rfl
  split
  · split
    · intro _
      rw [encodeRuneZ_two (by simp only; omega) (by simp only; omega)]
      simp only [List.take, List.cons.injEq, and_true]
      omega
    · intro h; exact absurd ⟨rfl, rfl⟩ h
  split
  · split
    · intro _
      rw [encodeRuneZ_three (by simp only; omega)]
      simp only [List.take, List.cons.injEq, and_true]
      omega
    · intro h; exact absurd ⟨rfl, rfl⟩ h
  split
  · split
    · intro _
      rw [encodeRuneZ_four (by simp only; omega) (by simp only; omega)]
      simp only [List.take, List.cons.injEq, and_true]
      omega
    · intro h; exact absurd ⟨rfl, rfl⟩ h
  · intro h; exact absurd ⟨rfl, rfl⟩ h

theorem take_four {l : List Int} {a b c d : Int} {k : Nat} (hk : k ≤ 4) (hl : k ≤ l.length) (h0 : l[0]? = some a) (h1 : 1 < l.length → l[1]? = some b) (h2 : 2 < l.length → l[2]? = some c) (h3 : 3 < l.length → l[3]? = some d) : l.take k = [a, b, c, d].take k := by
  apply List.ext_getElem?
  intro i
  rw [List.getElem?_take, List.getElem?_take]
  split
  · rename_i hi
    match i, hi with
    | 0, _ => simpa using h0
    | 1, _ => simpa using h1 (by omega)
    | 2, _ => simpa using h2 (by omega)
    | 3, _ => simpa using h3 (by omega)
    | i + 4, h => omega
  · rfl
theorem width_four (s : ByteArray) : (Utf8.decode s 0).2 ≤ 4 := by
  rw [decode_at]
  unfold decodeN
  repeat' split
  all_goals (simp only; omega)
/-- A step undone. -/
theorem unstep_step (T : PrintTabs) (s : ByteArray) (h0 : 0 < s.size) (t : List Int) : unstep (quoteStep T s ++ t) = some ((nums s).take (Utf8.decode s 0).2, t) := by
  unfold quoteStep
  split
  · rename_i hb
    rw [hb.1]
    have h := unstep_x (((s.get! 0).toNat : Nat) : Int) [hexDigit ((s.get! 0).toNat / 16), hexDigit ((s.get! 0).toNat % 16)] t (two_digits _ (UInt8.toNat_lt _) t)
    have hn := nums_get s 0 h0
    cases hs : nums s with
    | nil => rw [hs] at hn; simp at hn
    | cons a l =>
      rw [hs] at hn
      simp at hn
      subst hn
      exact h
  · rename_i hb
    rw [unstep_esc T (rune_valid s) t]
    congr 2
    have hw := width_le s h0
    have h4 := width_four s
    rw [take_four (a := ((s.get! 0).toNat : Nat)) (b := ((s.get! 1).toNat : Nat)) (c := ((s.get! 2).toNat : Nat)) (d := ((s.get! 3).toNat : Nat)) h4 (by rw [nums_length]; exact hw) (nums_get s 0 h0) (fun h => nums_get s 1 (by rw [nums_length] at h; exact h)) (fun h => nums_get s 2 (by rw [nums_length] at h; exact h)) (fun h => nums_get s 3 (by rw [nums_length] at h; exact h))]
    rw [decode_at] at hb ⊢
    simpa using dec_enc (s.size - 0) _ _ _ _ (UInt8.toNat_lt (s.get! 0)) (UInt8.toNat_lt (s.get! (0 + 1))) (UInt8.toNat_lt (s.get! (0 + 2))) (UInt8.toNat_lt (s.get! (0 + 3))) hb

/-- Two quoted strings, whatever follows. -/
theorem quoteFrom_inj (T : PrintTabs) : ∀ (f f' : Nat) (s s' : ByteArray) (r r' : List Int), s.size ≤ f → s'.size ≤ f' → quoteFrom T f s ++ 34 :: r = quoteFrom T f' s' ++ 34 :: r' → nums s = nums s' ∧ r = r' := by
  intro f
  induction f with
  | zero =>
    intro f' s s' r r' hs hs' h
    have h0 : ¬ 0 < s.size := by omega
    have hn : nums s = [] := List.eq_nil_of_length_eq_zero (by rw [nums_length]; omega)
    by_cases h0' : 0 < s'.size
    · rw [quoteFrom_end T _ s h0, quoteFrom_step T f' s' h0' hs', List.nil_append, List.append_assoc] at h
      have := unstep_step T s' h0' (quoteFrom T (f' - 1) (s'.extract (Utf8.decode s' 0).2 s'.size) ++ 34 :: r')
      rw [← h] at this
      simp [unstep] at this
    · rw [quoteFrom_end T _ s h0, quoteFrom_end T _ s' h0', List.nil_append, List.nil_append] at h
      have hn' : nums s' = [] := List.eq_nil_of_length_eq_zero (by rw [nums_length]; omega)
      rw [hn, hn']
      simp at h
      exact ⟨rfl, h⟩
  | succ f ih =>
    intro f' s s' r r' hs hs' h
    by_cases h0 : 0 < s.size
    · have hu := unstep_step T s h0 (quoteFrom T f (s.extract (Utf8.decode s 0).2 s.size) ++ 34 :: r)
      rw [quoteFrom_step T (f + 1) s h0 hs, List.append_assoc] at h
      simp only [Nat.add_sub_cancel] at h
      by_cases h0' : 0 < s'.size
      · have hu' := unstep_step T s' h0' (quoteFrom T (f' - 1) (s'.extract (Utf8.decode s' 0).2 s'.size) ++ 34 :: r')
        rw [quoteFrom_step T f' s' h0' hs', List.append_assoc] at h
        rw [h, hu'] at hu
        simp only [Option.some.injEq, Prod.mk.injEq] at hu
        obtain ⟨e1, e2⟩ := hu
        have w1 := width_pos s 0
        have w1' := width_pos s' 0
        have sz := size_rest s (Utf8.decode s 0).2
        have sz' := size_rest s' (Utf8.decode s' 0).2
        have := ih (f' - 1) _ _ r r' (by omega) (by omega) e2.symm
        rw [nums_rest, nums_rest] at this
        refine ⟨?_, this.2⟩
        rw [← List.take_append_drop (Utf8.decode s 0).2 (nums s), ← List.take_append_drop (Utf8.decode s' 0).2 (nums s'), this.1, e1]
      · rw [quoteFrom_end T _ s' h0', List.nil_append] at h
        rw [h] at hu
        simp [unstep] at hu
    · have hn : nums s = [] := List.eq_nil_of_length_eq_zero (by rw [nums_length]; omega)
      by_cases h0' : 0 < s'.size
      · rw [quoteFrom_end T _ s h0, quoteFrom_step T f' s' h0' hs', List.nil_append, List.append_assoc] at h
        have := unstep_step T s' h0' (quoteFrom T (f' - 1) (s'.extract (Utf8.decode s' 0).2 s'.size) ++ 34 :: r')
        rw [← h] at this
        simp [unstep] at this
      · rw [quoteFrom_end T _ s h0, quoteFrom_end T _ s' h0', List.nil_append, List.nil_append] at h
        have hn' : nums s' = [] := List.eq_nil_of_length_eq_zero (by rw [nums_length]; omega)
        rw [hn, hn']
        simp at h
        exact ⟨rfl, h⟩
theorem quoteZ_inj (T : PrintTabs) (s s' : ByteArray) (r r' : List Int) (h : quoteZ T s ++ r = quoteZ T s' ++ r') : s = s' ∧ r = r' := by
  simp only [quoteZ, List.cons_append, List.append_assoc, List.nil_append, List.cons.injEq, true_and] at h
  obtain ⟨h1, h2⟩ := quoteFrom_inj T _ _ s s' r r' (Nat.le_refl _) (Nat.le_refl _) h
  exact ⟨nums_inj h1, h2⟩
end Go.Proofs.YtkldomkooleecaaGreatDoor
