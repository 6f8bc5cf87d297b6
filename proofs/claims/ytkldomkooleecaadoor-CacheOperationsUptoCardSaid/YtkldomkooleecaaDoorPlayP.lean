/- What the operations on a cache do to the lists of codes and of counters: plain. -/
import Derived.Test.YtkldomkooleecaaDoorCacheE
import Derived.Test.YtkldomkooleecaaDoorInval
import Derived.Test.YtkldomkooleecaaDoorRCacheE
import Derived.Test.YtkldomkooleecaaDoorCountT
namespace Go.Proofs.YtkldomkooleecaaDoor
open Go.RowKit Go.Maps Go.MapKept

def posOf (l : List Cp) (i : Int) : Option Nat := l.findIdx? (fun x => x.id == i)
theorem posOf_finds {l : List Cp} {i : Int} {k : Nat} {x : Cp} (h : Finds l i k x) : posOf l i = some k := by
  obtain ⟨h1, h2, h3⟩ := h
  unfold posOf
  rw [List.findIdx?_eq_some_iff_getElem]
  obtain ⟨hlt, hge⟩ := List.getElem?_eq_some_iff.1 h1
  refine ⟨hlt, by simp [hge, h2], fun j hj hb => ?_⟩
  exact h3 j (l[j]'(by omega)) hj (by simp) (by simpa using hb)
theorem posOf_lacks {l : List Cp} {i : Int} (h : Lacks l i l.length) : posOf l i = none := by
  unfold posOf
  rw [List.findIdx?_eq_none_iff]
  intro x hx
  obtain ⟨j, hj⟩ := List.mem_iff_getElem?.1 hx
  have := h j x (List.getElem?_eq_some_iff.1 hj).1 hj
  simpa using this
theorem finds_or (l : List Cp) (i : Int) : (∃ k x, Finds l i k x) ∨ Lacks l i l.length := by
  cases h : posOf l i with
  | none =>
    right
    unfold posOf at h
    rw [List.findIdx?_eq_none_iff] at h
    intro j y _ hy
    simpa using h y (List.mem_of_getElem? hy)
  | some k =>
    left
    unfold posOf at h
    rw [List.findIdx?_eq_some_iff_getElem] at h
    obtain ⟨hlt, hb, hm⟩ := h
    refine ⟨k, l[k], by simp, by simpa using hb, fun j y hj hy => ?_⟩
    have := hm j hj
    rw [List.getElem?_eq_getElem (by omega)] at hy
    cases hy
    simpa using this
theorem finds_same {l : List Cp} {i : Int} {k k' : Nat} {x x' : Cp} (h : Finds l i k x) (h' : Finds l i k' x') : k' = k ∧ x' = x := by
  have e := (posOf_finds h).symm.trans (posOf_finds h')
  cases e
  refine ⟨rfl, ?_⟩
  have := h.1.symm.trans h'.1
  cases this
  rfl
theorem finds_not {l : List Cp} {i : Int} {k : Nat} {x : Cp} (h : Finds l i k x) (h' : Lacks l i l.length) : False := h' k x (List.getElem?_eq_some_iff.1 h.1).1 h.1 h.2.1
theorem fit_or (l : List Cp) (m : Int) (t : Ty) (wd : Int) : (∃ k x, FindsFit l m t wd k x) ∨ LacksFit l m t wd l.length := by
  classical
  cases h : l.findIdx? (fun x => decide (fits m t wd x)) with
  | none =>
    right
    rw [List.findIdx?_eq_none_iff] at h
    intro j y _ hy
    simpa using h y (List.mem_of_getElem? hy)
  | some k =>
    left
    rw [List.findIdx?_eq_some_iff_getElem] at h
    obtain ⟨hlt, hb, hm⟩ := h
    refine ⟨k, l[k], by simp, by simpa using hb, fun j y hj hy => ?_⟩
    have := hm j hj
    rw [List.getElem?_eq_getElem (by omega)] at hy
    cases hy
    simpa using this
theorem fit_same {l : List Cp} {m wd : Int} {t : Ty} {k k' : Nat} {x x' : Cp} (h : FindsFit l m t wd k x) (h' : FindsFit l m t wd k' x') : k' = k ∧ x' = x := by
  obtain ⟨h1, h2, h3⟩ := h
  obtain ⟨g1, g2, g3⟩ := h'
  have e : k' = k := by
    rcases Nat.lt_trichotomy k' k with q | q | q
    · exact absurd g2 (h3 k' x' q g1)
    · exact q
    · exact absurd h2 (g3 k x q h1)
  subst e
  rw [h1] at g1
  cases g1
  exact ⟨rfl, rfl⟩
theorem fit_not {l : List Cp} {m wd : Int} {t : Ty} {k : Nat} {x : Cp} (h : FindsFit l m t wd k x) (h' : LacksFit l m t wd l.length) : False := h' k x (List.getElem?_eq_some_iff.1 h.1).1 h.1 h.2.1

def addE (cap : Int) (l : List Cp) (m f u : Int) : Int := if m < 1 ∨ f < 1 ∨ (u ≠ 0 ∧ u ≤ f) then 1 else if cap ≤ (l.length : Int) then 8 else 0
def addI (cap : Int) (l : List Cp) (m f u next : Int) : Int := if addE cap l m f u = 0 then next else 0
def addN (cap : Int) (l : List Cp) (m f u next : Int) : Int := if addE cap l m f u = 0 then next + 1 else next
def addL (cap : Int) (l : List Cp) (m f u next : Int) (t : Ty) (xl : List Int) : List Cp := if addE cap l m f u = 0 then l ++ [⟨next, m, t, f, u, xl⟩] else l
theorem add_cases (cap : Int) (l : List Cp) (m f u : Int) : (addE cap l m f u = 1 ∧ (m < 1 ∨ f < 1 ∨ (u ≠ 0 ∧ u ≤ f))) ∨ (addE cap l m f u = 8 ∧ 1 ≤ m ∧ 1 ≤ f ∧ (u = 0 ∨ f < u) ∧ cap ≤ (l.length : Int)) ∨ (addE cap l m f u = 0 ∧ 1 ≤ m ∧ 1 ≤ f ∧ (u = 0 ∨ f < u) ∧ (l.length : Int) < cap) := by
  unfold addE
  split
  · exact .inl ⟨rfl, by assumption⟩
  · split
    · exact .inr (.inl ⟨rfl, by omega, by omega, by omega, by omega⟩)
    · exact .inr (.inr ⟨rfl, by omega, by omega, by omega, by omega⟩)

def invE (l : List Cp) (i wd : Int) : Int := match posOf l i with
  | none => 7
  | some k => match l[k]? with
    | none => 0
    | some x => if x.unt ≠ 0 then 6 else if wd ≤ x.frm then 1 else 0
def invL (l : List Cp) (i wd : Int) : List Cp := match posOf l i with
  | none => l
  | some k => match l[k]? with
    | none => l
    | some x => if x.unt ≠ 0 then l else if wd ≤ x.frm then l else endAt l k x wd
def remE (l : List Cp) (i : Int) : Int := match posOf l i with
  | none => 7
  | some k => match l[k]? with
    | none => 0
    | some x => if x.unt = 0 then 10 else 0
def remL (l : List Cp) (i : Int) : List Cp := match posOf l i with
  | none => l
  | some k => match l[k]? with
    | none => l
    | some x => if x.unt = 0 then l else l.take k ++ l.drop (k + 1)
theorem invE_lacks {l : List Cp} {i wd : Int} (h : Lacks l i l.length) : invE l i wd = 7 ∧ invL l i wd = l := by simp [invE, invL, posOf_lacks h]
theorem invE_finds {l : List Cp} {i wd : Int} {k : Nat} {x : Cp} (h : Finds l i k x) : invE l i wd = (if x.unt ≠ 0 then 6 else if wd ≤ x.frm then 1 else 0) ∧ invL l i wd = (if x.unt ≠ 0 then l else if wd ≤ x.frm then l else endAt l k x wd) := by simp [invE, invL, posOf_finds h, h.1]
theorem remE_lacks {l : List Cp} {i : Int} (h : Lacks l i l.length) : remE l i = 7 ∧ remL l i = l := by simp [remE, remL, posOf_lacks h]
theorem remE_finds {l : List Cp} {i : Int} {k : Nat} {x : Cp} (h : Finds l i k x) : remE l i = (if x.unt = 0 then 10 else 0) ∧ remL l i = (if x.unt = 0 then l else l.take k ++ l.drop (k + 1)) := by simp [remE, remL, posOf_finds h, h.1]
theorem addL_len (cap : Int) (l : List Cp) (m f u next : Int) (t : Ty) (xl : List Int) : (addL cap l m f u next t xl).length ≤ l.length + 1 := by
  unfold addL
  split <;> simp
theorem invL_len (l : List Cp) (i wd : Int) : (invL l i wd).length ≤ l.length + 1 := by
  unfold invL
  split
  · omega
  · split
    · omega
    · split
      · omega
      · split
        · omega
        · simp [endAt]
theorem remL_len (l : List Cp) (i : Int) : (remL l i).length ≤ l.length + 1 := by
  unfold remL
  split
  · omega
  · split
    · omega
    · split
      · omega
      · simp; omega

open Classical in
noncomputable def cntPos (cs : List Cn) (m : Int) (t : Ty) : Option Nat := cs.findIdx? (fun x => decide (hits m t x))
noncomputable def cntI (cs : List Cn) (m : Int) (t : Ty) : Int := match cntPos cs m t with
  | none => 1
  | some k => match cs[k]? with
    | none => 1
    | some x => x.n + 1
noncomputable def cntL (cs : List Cn) (m : Int) (t : Ty) : List Cn := match cntPos cs m t with
  | none => cs ++ [⟨m, 1, t⟩]
  | some k => match cs[k]? with
    | none => cs
    | some x => cs.set k { x with n := x.n + 1 }
theorem cntPos_hit {cs : List Cn} {m : Int} {t : Ty} {k : Nat} {x : Cn} (hx : cs[k]? = some x) (hh : hits m t x) (hn : NoHit cs m t k) : cntPos cs m t = some k := by
  classical
  unfold cntPos
  rw [List.findIdx?_eq_some_iff_getElem]
  obtain ⟨hlt, hge⟩ := List.getElem?_eq_some_iff.1 hx
  refine ⟨hlt, by simp [hge, hh], fun j hj hb => ?_⟩
  exact hn j (cs[j]'(by omega)) hj (by simp) (by simpa using hb)
theorem cntPos_none {cs : List Cn} {m : Int} {t : Ty} (hn : NoHit cs m t cs.length) : cntPos cs m t = none := by
  classical
  unfold cntPos
  rw [List.findIdx?_eq_none_iff]
  intro x hx
  obtain ⟨j, hj⟩ := List.mem_iff_getElem?.1 hx
  have := hn j x (List.getElem?_eq_some_iff.1 hj).1 hj
  simpa using this
theorem cnt_hit {cs : List Cn} {m : Int} {t : Ty} {k : Nat} {x : Cn} (hx : cs[k]? = some x) (hh : hits m t x) (hn : NoHit cs m t k) : cntI cs m t = x.n + 1 ∧ cntL cs m t = cs.set k { x with n := x.n + 1 } := by
  simp [cntI, cntL, cntPos_hit hx hh hn, hx]
theorem cnt_none {cs : List Cn} {m : Int} {t : Ty} (hn : NoHit cs m t cs.length) : cntI cs m t = 1 ∧ cntL cs m t = cs ++ [⟨m, 1, t⟩] := by
  simp [cntI, cntL, cntPos_none hn]
theorem cntL_len (cs : List Cn) (m : Int) (t : Ty) : (cntL cs m t).length ≤ cs.length + 1 := by
  unfold cntL
  split
  · simp
  · split
    · omega
    · simp
theorem cntL_le {cs : List Cn} {m : Int} {t : Ty} {b : Int} (hb : 0 ≤ b) (h : ∀ x ∈ cs, 0 ≤ x.n ∧ x.n ≤ b) : ∀ x ∈ cntL cs m t, 0 ≤ x.n ∧ x.n ≤ b + 1 := by
  intro x hx
  unfold cntL at hx
  split at hx
  · rcases List.mem_append.1 hx with hx | hx
    · have := h x hx; omega
    · simp at hx; subst hx; simp; omega
  · split at hx
    · have := h x hx; omega
    · rename_i y hy
      rcases List.mem_or_eq_of_mem_set hx with hx | rfl
      · have := h x hx; omega
      · have := h y (List.mem_of_getElem? hy)
        show 0 ≤ y.n + 1 ∧ y.n + 1 ≤ b + 1
        omega

/-- The map holds the counters. -/
def MapRel (es : List MapEntry) (cs : List Cn) : Prop := es.length = cs.length ∧ ∀ (k : Nat) (y : MapEntry) (x : Cn), es[k]? = some y → cs[k]? = some x → y.key = callK x.method (keyOf x.ty) ∧ y.val = .int .i64 x.n
theorem MapRel.nil : MapRel [] [] := ⟨rfl, fun k y x h => by simp at h⟩
theorem MapRel.counted {w w' : World} {mb n : Nat} {es : List MapEntry} {cs : List Cn} {m : Int} {t : Ty} {e : Ending} (hr : MapRel es cs) (hm : IsMap CallKey w mb es n) (h : Counted w w' mb es n (callK m (keyOf t)) e) :
    e = .returned (.int .i64 (cntI cs m t)) ∧ (∃ es' n', IsMap CallKey w' mb es' n' ∧ MapRel es' (cntL cs m t)) ∧ Kept [mb] w w' := by
  cases h with
  | old i y c hi hk hv hm' kp =>
    obtain ⟨x, hx⟩ : ∃ x, cs[i]? = some x := ⟨cs[i]'(by have := (List.getElem?_eq_some_iff.1 hi).1; have := hr.1; omega), by simp⟩
    obtain ⟨r1, r2⟩ := hr.2 i y x hi hx
    obtain ⟨q1, q2⟩ := callK_inj (hk.symm.trans r1)
    have q3 := keyOf_inj q2
    have hc : c = x.n := by rw [hv] at r2; simpa using r2
    subst hc
    have hno : NoHit cs m t i := fun j z hj hz hh => by
      obtain ⟨y', hy'⟩ : ∃ y', es[j]? = some y' := ⟨es[j]'(by have := (List.getElem?_eq_some_iff.1 hz).1; have := hr.1; omega), by simp⟩
      obtain ⟨p1, _⟩ := hr.2 j y' z hy' hz
      rw [hh.1, hh.2, ← hk] at p1
      have := nodup_get hm.nodup (i := j) (j := i) (x := y.key) (by simp [hy', p1]) (by simp [hi])
      omega
    obtain ⟨e1, e2⟩ := cnt_hit hx ⟨q1.symm, q3.symm⟩ hno
    rw [e1, e2]
    refine ⟨rfl, ⟨_, _, hm', by simp [hr.1], fun k y' x' hy' hx' => ?_⟩, kp⟩
    rw [List.getElem?_set] at hy' hx'
    by_cases hik : i = k
    · subst hik
      rw [if_pos rfl, if_pos (List.getElem?_eq_some_iff.1 hi).1] at hy'
      rw [if_pos rfl, if_pos (List.getElem?_eq_some_iff.1 hx).1] at hx'
      cases hy'
      cases hx'
      exact ⟨r1, rfl⟩
    · rw [if_neg hik] at hy' hx'
      exact hr.2 k y' x' hy' hx'
  | new hno hm' kp =>
    have hn : NoHit cs m t cs.length := fun j z hj hz hh => by
      obtain ⟨y', hy'⟩ : ∃ y', es[j]? = some y' := ⟨es[j]'(by have := hr.1; omega), by simp⟩
      obtain ⟨p1, _⟩ := hr.2 j y' z hy' hz
      rw [hh.1, hh.2] at p1
      exact hno y' (List.mem_of_getElem? hy') p1
    obtain ⟨e1, e2⟩ := cnt_none hn
    rw [e1, e2]
    refine ⟨rfl, ⟨_, _, hm', by simp [hr.1], fun k y' x' hy' hx' => ?_⟩, kp⟩
    rcases Nat.lt_or_ge k es.length with hl | hl
    · rw [List.getElem?_append_left hl] at hy'
      rw [List.getElem?_append_left (by have := hr.1; omega)] at hx'
      exact hr.2 k y' x' hy' hx'
    · rw [List.getElem?_append_right hl] at hy'
      rw [List.getElem?_append_right (by have := hr.1; omega), ← hr.1] at hx'
      rcases Nat.eq_or_lt_of_le hl with q | q
      · rw [← q, Nat.sub_self] at hy' hx'
        simp at hy' hx'
        subst hy' hx'
        exact ⟨rfl, rfl⟩
      · rw [List.getElem?_eq_none (by simp; omega)] at hy'
        cases hy'
end Go.Proofs.YtkldomkooleecaaDoor
