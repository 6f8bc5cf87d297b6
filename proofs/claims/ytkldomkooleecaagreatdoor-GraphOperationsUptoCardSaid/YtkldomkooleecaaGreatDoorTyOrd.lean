/- The order of type terms: plain facts. -/
import Derived.Test.YtkldomkooleecaaGreatDoorInts
namespace Go.Proofs.YtkldomkooleecaaGreatDoor
open Go.RowKit

def cmpI (x y : Int) : Int := if x < y then -1 else if y < x then 1 else 0
def cmpB (x y : List UInt8) : Int := if Op.bytesLess x y then -1 else if Op.bytesLess y x then 1 else 0
def cmpS (x y : ByteArray) : Int := cmpB x.toList y.toList
/-- The first of two numbers unless it is 0. -/
def fst0 (a b : Int) : Int := if a = 0 then b else a
theorem fst0_zero (b : Int) : fst0 0 b = b := rfl
theorem fst0_ne {a : Int} (h : a ≠ 0) (b : Int) : fst0 a b = a := if_neg h

mutual
def tyCmp : Ty → Ty → Int
  | .mk k n i l, .mk k' n' i' l' => fst0 (fst0 (cmpI k k') (fst0 (cmpS n n') (fst0 (cmpI i i') (cmpI l.length l'.length)))) (tysCmp l l')
def tysCmp : List Ty → List Ty → Int
  | a :: l, b :: m => fst0 (tyCmp a b) (tysCmp l m)
  | _, _ => 0
end

/-- A comparison that is a total order. -/
structure Cmp3 {α : Type} (f : α → α → Int) : Prop where
  zero : ∀ x y, f x y = 0 ↔ x = y
  anti : ∀ x y, f y x = - f x y
  trans : ∀ x y z, f x y < 0 → f y z < 0 → f x z < 0

theorem cmpI_ord : Cmp3 cmpI := by
  refine ⟨fun x y => ?_, fun x y => ?_, fun x y z => ?_⟩
  · unfold cmpI; split
    · constructor <;> intro h <;> omega
    · split <;> constructor <;> intro h <;> omega
  · unfold cmpI; split <;> split <;> omega
  · unfold cmpI; split <;> split <;> split <;> omega

theorem less_trans : ∀ x y z : List UInt8, Op.bytesLess x y = true → Op.bytesLess y z = true → Op.bytesLess x z = true
  | _, [], _, h, _ => by cases ‹List UInt8› <;> simp [Op.bytesLess] at h
  | _, _ :: _, [], _, h => by simp [Op.bytesLess] at h
  | [], _ :: _, _ :: _, _, _ => by simp [Op.bytesLess]
  | a :: x, b :: y, c :: z, h1, h2 => by
    simp only [Op.bytesLess, Bool.or_eq_true, decide_eq_true_eq, Bool.and_eq_true, beq_iff_eq, UInt8.lt_iff_toNat_lt] at h1 h2 ⊢
    rcases h1 with h1 | ⟨rfl, h1⟩ <;> rcases h2 with h2 | ⟨rfl, h2⟩
    · exact .inl (by omega)
    · exact .inl h1
    · exact .inl h2
    · exact .inr ⟨rfl, less_trans x y z h1 h2⟩
theorem less_irrefl : ∀ x : List UInt8, Op.bytesLess x x = false
  | [] => rfl
  | a :: x => by simp [Op.bytesLess, less_irrefl x]
theorem less_total : ∀ x y : List UInt8, Op.bytesLess x y = false → Op.bytesLess y x = false → x = y
  | [], [], _, _ => rfl
  | [], _ :: _, h, _ => by simp [Op.bytesLess] at h
  | _ :: _, [], _, h => by simp [Op.bytesLess] at h
  | a :: x, b :: y, h1, h2 => by
    simp only [Op.bytesLess, Bool.or_eq_false_iff, decide_eq_false_iff_not, Bool.and_eq_false_iff, UInt8.lt_iff_toNat_lt] at h1 h2
    have hab : a = b := UInt8.toNat_inj.1 (by omega)
    subst hab
    rw [less_total x y (by simpa using h1.2) (by simpa using h2.2)]
theorem cmpB_ord : Cmp3 cmpB := by
  refine ⟨fun x y => ?_, fun x y => ?_, fun x y z => ?_⟩
  · unfold cmpB
    cases h1 : Op.bytesLess x y <;> cases h2 : Op.bytesLess y x <;> simp
    · exact less_total x y h1 h2
    · rintro rfl; rw [less_irrefl] at h2; cases h2
    · rintro rfl; rw [less_irrefl] at h1; cases h1
    · rintro rfl; rw [less_irrefl] at h1; cases h1
  · unfold cmpB
    cases h1 : Op.bytesLess x y <;> cases h2 : Op.bytesLess y x <;> simp
    have := less_trans _ _ _ h1 h2
    rw [less_irrefl] at this
    cases this
  · unfold cmpB
    cases h1 : Op.bytesLess x y <;> cases h2 : Op.bytesLess y z <;> simp
    · split <;> omega
    · split <;> omega
    · split <;> omega
    · rw [less_trans _ _ _ h1 h2]; simp
theorem bytes_inj' {x y : ByteArray} (h : x.toList = y.toList) : x = y := by
  rw [ByteArray.toList_eq, ByteArray.toList_eq] at h
  exact Go.WideShapes.bytes_inj h
theorem cmpS_ord : Cmp3 cmpS := by
  refine ⟨fun x y => ⟨fun h => bytes_inj' ((cmpB_ord.zero _ _).1 h), fun h => by rw [h]; exact (cmpB_ord.zero _ _).2 rfl⟩, fun x y => cmpB_ord.anti _ _, fun x y z => cmpB_ord.trans _ _ _⟩

theorem fst0_eq0 {a b : Int} : fst0 a b = 0 ↔ a = 0 ∧ b = 0 := by
  unfold fst0
  split
  · rename_i h; simp [h]
  · rename_i h; simp [h]
theorem fst0_neg {a b : Int} : fst0 (-a) (-b) = - fst0 a b := by
  unfold fst0
  by_cases h : a = 0
  · rw [if_pos (by omega), if_pos h]
  · rw [if_neg (by omega), if_neg h]
/-- Two comparisons one after the other. -/
theorem fst0_trans {a b c a' b' c' : Int} (h1 : a < 0 → b < 0 → c < 0) (h2 : a = 0 → c = b) (h3 : b = 0 → c = a) (h4 : a = 0 → b = 0 → a' < 0 → b' < 0 → c' < 0) : fst0 a a' < 0 → fst0 b b' < 0 → fst0 c c' < 0 := by
  unfold fst0
  intro p q
  by_cases ha : a = 0
  · have := h2 ha
    rw [if_pos ha] at p
    by_cases hb : b = 0
    · rw [if_pos hb] at q
      rw [if_pos (by omega)]
      exact h4 ha hb p q
    · rw [if_neg hb] at q
      rw [if_neg (by omega)]
      omega
  · rw [if_neg ha] at p
    by_cases hb : b = 0
    · have := h3 hb
      rw [if_neg (by omega)]
      omega
    · rw [if_neg hb] at q
      have := h1 p q
      rw [if_neg (by omega)]
      exact this

theorem Cmp3.left {α : Type} {f : α → α → Int} (h : Cmp3 f) {x y z : α} (e : f x y = 0) : f x z = f y z := by rw [(h.zero x y).1 e]
theorem Cmp3.right {α : Type} {f : α → α → Int} (h : Cmp3 f) {x y z : α} (e : f y z = 0) : f x z = f x y := by rw [(h.zero y z).1 e]

mutual
theorem ty_zero : ∀ x y : Ty, tyCmp x y = 0 ↔ x = y
  | .mk k n i l, .mk k' n' i' l' => by
    rw [tyCmp, fst0_eq0, fst0_eq0, fst0_eq0, fst0_eq0, cmpI_ord.zero, cmpS_ord.zero, cmpI_ord.zero, cmpI_ord.zero]
    constructor
    · rintro ⟨⟨rfl, rfl, rfl, h⟩, h'⟩
      rw [(tys_zero l l' (by omega)).1 h']
    · intro h
      cases h
      exact ⟨⟨rfl, rfl, rfl, rfl⟩, (tys_zero l l rfl).2 rfl⟩
theorem tys_zero : ∀ l m : List Ty, l.length = m.length → (tysCmp l m = 0 ↔ l = m)
  | [], [], _ => by simp [tysCmp]
  | [], _ :: _, h => by simp at h
  | _ :: _, [], h => by simp at h
  | a :: l, b :: m, h => by
    rw [tysCmp, fst0_eq0, ty_zero a b, tys_zero l m (by simpa using h)]
    simp
end
mutual
theorem ty_anti : ∀ x y : Ty, tyCmp y x = - tyCmp x y
  | .mk k n i l, .mk k' n' i' l' => by
    rw [tyCmp, tyCmp, ← fst0_neg, ← fst0_neg, ← fst0_neg, ← fst0_neg, ← cmpI_ord.anti, ← cmpS_ord.anti, ← cmpI_ord.anti, ← cmpI_ord.anti, tys_anti l l']
theorem tys_anti : ∀ l m : List Ty, tysCmp m l = - tysCmp l m
  | [], [] => by simp [tysCmp]
  | [], _ :: _ => by simp [tysCmp]
  | _ :: _, [] => by simp [tysCmp]
  | a :: l, b :: m => by rw [tysCmp, tysCmp, ty_anti a b, tys_anti l m, fst0_neg]
end
mutual
theorem ty_trans : ∀ x y z : Ty, tyCmp x y < 0 → tyCmp y z < 0 → tyCmp x z < 0
  | .mk k n i l, .mk k' n' i' l', .mk k'' n'' i'' l'' => by
    rw [tyCmp, tyCmp, tyCmp]
    refine fst0_trans ?_ ?_ ?_ ?_
    · refine fst0_trans (cmpI_ord.trans _ _ _) (fun h => cmpI_ord.left h) (fun h => cmpI_ord.right h) (fun _ _ => ?_)
      refine fst0_trans (cmpS_ord.trans _ _ _) (fun h => cmpS_ord.left h) (fun h => cmpS_ord.right h) (fun _ _ => ?_)
      exact fst0_trans (cmpI_ord.trans _ _ _) (fun h => cmpI_ord.left h) (fun h => cmpI_ord.right h) (fun _ _ => cmpI_ord.trans _ _ _)
    · rw [fst0_eq0, fst0_eq0, fst0_eq0, cmpI_ord.zero, cmpS_ord.zero, cmpI_ord.zero, cmpI_ord.zero]
      rintro ⟨rfl, rfl, rfl, h⟩
      rw [h]
    · rw [fst0_eq0, fst0_eq0, fst0_eq0, cmpI_ord.zero, cmpS_ord.zero, cmpI_ord.zero, cmpI_ord.zero]
      rintro ⟨rfl, rfl, rfl, h⟩
      rw [h]
    · intro h1 h2
      rw [fst0_eq0, fst0_eq0, fst0_eq0, cmpI_ord.zero, cmpS_ord.zero, cmpI_ord.zero, cmpI_ord.zero] at h1 h2
      exact tys_trans l l' l'' (by omega) (by omega)
theorem tys_trans : ∀ l m p : List Ty, l.length = m.length → m.length = p.length → tysCmp l m < 0 → tysCmp m p < 0 → tysCmp l p < 0
  | [], _, _, _, _ => by intro h; simp [tysCmp] at h
  | _ :: _, [], _, h, _ => by simp at h
  | _ :: _, _ :: _, [], _, h => by simp at h
  | a :: l, b :: m, c :: p, h1, h2 => by
    rw [tysCmp, tysCmp, tysCmp]
    exact fst0_trans (ty_trans a b c) (fun h => by rw [(ty_zero a b).1 h]) (fun h => by rw [(ty_zero b c).1 h]) (fun _ _ => tys_trans l m p (by simpa using h1) (by simpa using h2))
end
theorem ty_ord : Cmp3 tyCmp := ⟨ty_zero, ty_anti, ty_trans⟩
end Go.Proofs.YtkldomkooleecaaGreatDoor
