/- The key of a type, as a string, tells the type. -/
import Derived.Test.YtkldomkooleecaaGreatDoorTyKey
namespace Go.Proofs.YtkldomkooleecaaGreatDoor
open Go.RowKit Go.Lib

/-- A byte's number. -/
def IsByte (c : Int) : Prop := 0 ≤ c ∧ c ≤ 255
theorem hexDigit_byte (n : Nat) (h : n < 16) : IsByte (Lib.hexDigit n) := by unfold IsByte Lib.hexDigit; split <;> omega
theorem hexDigits_byte (r : Nat) : ∀ n : Nat, ∀ c ∈ Lib.hexDigits r n, IsByte c
  | 0, c, h => by simp [Lib.hexDigits] at h
  | n + 1, c, h => by
    simp only [Lib.hexDigits, List.mem_cons] at h
    rcases h with rfl | h
    · exact hexDigit_byte _ (Nat.mod_lt _ (by decide))
    · exact hexDigits_byte r n c h
theorem encode_byte (r : Int) : ∀ c ∈ encodeRuneZ r, IsByte c := by
  intro c h
  unfold IsByte
  unfold encodeRuneZ at h
  repeat' split at h
  all_goals simp only [List.mem_cons, List.not_mem_nil, or_false] at h
  · omega
  · rcases h with rfl | rfl <;> omega
  · rcases h with rfl | rfl | rfl <;> omega
  · rcases h with rfl | rfl | rfl | rfl <;> omega
  · rcases h with rfl | rfl | rfl <;> omega
theorem cons_byte {a : Int} {l : List Int} (ha : IsByte a) (hl : ∀ c ∈ l, IsByte c) : ∀ c ∈ a :: l, IsByte c := by
  intro c h
  rcases List.mem_cons.1 h with rfl | h
  · exact ha
  · exact hl c h
theorem nil_byte : ∀ c ∈ ([] : List Int), IsByte c := by simp
theorem lit_byte {a : Int} (h : 0 ≤ a ∧ a ≤ 255 := by decide) : IsByte a := h
theorem esc_byte (T : PrintTabs) (r : Int) : ∀ c ∈ Lib.escRune T r, IsByte c := by
  unfold Lib.escRune
  by_cases c0 : r = 34 ∨ r = 92
  · rw [if_pos c0]; exact cons_byte lit_byte (cons_byte (by unfold IsByte; omega) nil_byte)
  rw [if_neg c0]
  by_cases c1 : isPrintR T r = true
  · rw [if_pos c1]; exact encode_byte r
  rw [if_neg c1]
  by_cases c2 : r = 7
  · rw [if_pos c2]; exact cons_byte lit_byte (cons_byte lit_byte nil_byte)
  rw [if_neg c2]
  by_cases c3 : r = 8
  · rw [if_pos c3]; exact cons_byte lit_byte (cons_byte lit_byte nil_byte)
  rw [if_neg c3]
  by_cases c4 : r = 12
  · rw [if_pos c4]; exact cons_byte lit_byte (cons_byte lit_byte nil_byte)
  rw [if_neg c4]
  by_cases c5 : r = 10
  · rw [if_pos c5]; exact cons_byte lit_byte (cons_byte lit_byte nil_byte)
  rw [if_neg c5]
  by_cases c6 : r = 13
  · rw [if_pos c6]; exact cons_byte lit_byte (cons_byte lit_byte nil_byte)
  rw [if_neg c6]
  by_cases c7 : r = 9
  · rw [if_pos c7]; exact cons_byte lit_byte (cons_byte lit_byte nil_byte)
  rw [if_neg c7]
  by_cases c8 : r = 11
  · rw [if_pos c8]; exact cons_byte lit_byte (cons_byte lit_byte nil_byte)
  rw [if_neg c8]
  by_cases c9 : r < 32 ∨ r = 127
  · rw [if_pos c9]
    by_cases h : r < 0
    · have : r.toNat = 0 := by omega
      rw [this]
      exact cons_byte lit_byte (cons_byte lit_byte (cons_byte (hexDigit_byte _ (by omega)) (cons_byte (hexDigit_byte _ (by omega)) nil_byte)))
    · exact cons_byte lit_byte (cons_byte lit_byte (cons_byte (hexDigit_byte _ (by omega)) (cons_byte (hexDigit_byte _ (by omega)) nil_byte)))
  rw [if_neg c9]
  by_cases c10 : Lib.validRune r = false
  · rw [if_pos c10]; exact cons_byte lit_byte (cons_byte lit_byte (hexDigits_byte _ _))
  rw [if_neg c10]
  by_cases c11 : r < 65536
  · rw [if_pos c11]; exact cons_byte lit_byte (cons_byte lit_byte (hexDigits_byte _ _))
  rw [if_neg c11]
  exact cons_byte lit_byte (cons_byte lit_byte (hexDigits_byte _ _))
theorem step_byte (T : PrintTabs) (s : ByteArray) : ∀ c ∈ quoteStep T s, IsByte c := by
  unfold quoteStep
  split
  · have := UInt8.toNat_lt (s.get! 0)
    exact cons_byte lit_byte (cons_byte lit_byte (cons_byte (hexDigit_byte _ (by omega)) (cons_byte (hexDigit_byte _ (by omega)) nil_byte)))
  · exact esc_byte T _
theorem from_byte (T : PrintTabs) : ∀ (f : Nat) (s : ByteArray), ∀ c ∈ quoteFrom T f s, IsByte c
  | 0, s => by simp [quoteFrom]
  | f + 1, s => by
    unfold quoteFrom
    split
    · intro c h
      rcases List.mem_append.1 h with h | h
      · exact step_byte T s c h
      · exact from_byte T f _ c h
    · exact nil_byte
theorem quote_byte (T : PrintTabs) (s : ByteArray) : ∀ c ∈ quoteZ T s, IsByte c := by
  unfold quoteZ
  refine cons_byte lit_byte (fun c h => ?_)
  rcases List.mem_append.1 h with h | h
  · exact from_byte T _ s c h
  · exact cons_byte lit_byte nil_byte c h
theorem inum_byte (n : Int) : ∀ c ∈ inum n, IsByte c := by
  intro c h
  unfold inum at h
  obtain ⟨x, _, rfl⟩ := List.mem_map.1 h
  have := UInt8.toNat_lt x
  unfold IsByte; omega
mutual
theorem tkey_byte (T : PrintTabs) : ∀ (x : Ty), ∀ c ∈ tkey T x, IsByte c
  | .mk k n i l, c, h => by
    rw [tkey] at h
    simp only [List.mem_append, List.mem_cons, List.not_mem_nil, or_false] at h
    rcases h with h | rfl | h | h | rfl | h | rfl
    · exact inum_byte k c h
    · exact lit_byte
    · exact quote_byte T n c h
    · exact inum_byte i c h
    · exact lit_byte
    · exact tkeys_byte T l c h
    · exact lit_byte
theorem tkeys_byte (T : PrintTabs) : ∀ (l : List Ty), ∀ c ∈ tkeys T l, IsByte c
  | [], c, h => by simp [tkeys] at h
  | a :: l, c, h => by
    rw [tkeys] at h
    rcases List.mem_append.1 h with h | h
    · exact tkey_byte T a c h
    · exact tkeys_byte T l c h
end
theorem strOfNums_inj : ∀ {l m : List Int}, (∀ c ∈ l, IsByte c) → (∀ c ∈ m, IsByte c) → strOfNums l = strOfNums m → l = m := by
  have key : ∀ {l m : List Int}, (∀ c ∈ l, IsByte c) → (∀ c ∈ m, IsByte c) → (l.map fun n => UInt8.ofNat n.toNat) = (m.map fun n => UInt8.ofNat n.toNat) → l = m := by
    intro l
    induction l with
    | nil => intro m _ _ h; cases m with | nil => rfl | cons b m => simp at h
    | cons a l ih =>
      intro m h1 h2 h
      cases m with
      | nil => simp at h
      | cons b m =>
        simp only [List.map_cons, List.cons.injEq] at h
        obtain ⟨e1, e2⟩ := h
        have ha := h1 a (by simp)
        have hb := h2 b (by simp)
        unfold IsByte at ha hb
        have e3 := congrArg UInt8.toNat e1
        simp only [UInt8.toNat_ofNat'] at e3
        rw [Nat.mod_eq_of_lt (by omega), Nat.mod_eq_of_lt (by omega)] at e3
        rw [ih (fun c hc => h1 c (by simp [hc])) (fun c hc => h2 c (by simp [hc])) e2, show a = b by omega]
  intro l m h1 h2 h
  refine key h1 h2 ?_
  rw [← strOfNums_data, ← strOfNums_data, h]
theorem keyOf_inj {x y : Ty} (h : keyOf x = keyOf y) : x = y := tkey_inj' (strOfNums_inj (tkey_byte _ x) (tkey_byte _ y) h)
end Go.Proofs.YtkldomkooleecaaGreatDoor
