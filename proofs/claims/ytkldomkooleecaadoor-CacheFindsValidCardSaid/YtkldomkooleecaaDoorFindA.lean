/- For CacheFindsValid: the smallest fit, and what one operation leaves of the cache. -/
import Derived.Test.YtkldomkooleecaaDoorCapA
import Derived.Test.YtkldomkooleecaaDoorGen31
namespace Go.Proofs.YtkldomkooleecaaDoor
open Go.RowKit

/-- The number of the first code from the n-th on that fits, or 0. -/
def Best (l : List Cp) (m : Int) (t : Ty) (wd : Int) (n : Nat) (r : Int) : Prop :=
  (r = 0 ∧ ∀ (j : Nat) (y : Cp), n ≤ j → l[j]? = some y → ¬ fits m t wd y) ∨
  (∃ (k : Nat) (x : Cp), n ≤ k ∧ l[k]? = some x ∧ fits m t wd x ∧ r = x.id ∧ ∀ (j : Nat) (y : Cp), n ≤ j → j < k → l[j]? = some y → ¬ fits m t wd y)
theorem Best.start (l : List Cp) (m : Int) (t : Ty) (wd : Int) : Best l m t wd l.length 0 :=
  .inl ⟨rfl, fun j y hj hy => by rw [List.getElem?_eq_none hj] at hy; cases hy⟩
theorem Best.hit {l : List Cp} {m : Int} {t : Ty} {wd : Int} {n : Nat} {x : Cp} (hx : l[n]? = some x) (hf : fits m t wd x) : Best l m t wd n x.id :=
  .inr ⟨n, x, Nat.le_refl _, hx, hf, rfl, fun j y h1 h2 _ => by omega⟩
theorem Best.miss {l : List Cp} {m : Int} {t : Ty} {wd : Int} {n : Nat} {r : Int} {x : Cp} (h : Best l m t wd (n + 1) r) (hx : l[n]? = some x) (hf : ¬ fits m t wd x) : Best l m t wd n r := by
  have key : ∀ (j : Nat) (y : Cp), n ≤ j → l[j]? = some y → (n + 1 ≤ j → ¬ fits m t wd y) → ¬ fits m t wd y := by
    intro j y hj hy h
    rcases Nat.lt_or_eq_of_le hj with h1 | rfl
    · exact h h1
    · rw [hx] at hy; cases hy; exact hf
  rcases h with ⟨h1, h2⟩ | ⟨k, y, h1, h2, h3, h4, h5⟩
  · exact .inl ⟨h1, fun j y hj hy => key j y hj hy (fun h => h2 j y h hy)⟩
  · exact .inr ⟨k, y, by omega, h2, h3, h4, fun j z hj hk hz => key j z hj hz (fun h => h5 j z h hk hz)⟩
theorem Best.found {l : List Cp} {m : Int} {t : Ty} {wd : Int} {r : Int} {k : Nat} {x : Cp} (h : Best l m t wd 0 r) (hf : FindsFit l m t wd k x) : r = x.id := by
  obtain ⟨hx, hfx, hmin⟩ := hf
  rcases h with ⟨_, h2⟩ | ⟨k', y, _, h2, h3, h4, h5⟩
  · exact absurd hfx (h2 k x (Nat.zero_le _) hx)
  · rcases Nat.lt_trichotomy k k' with hl | rfl | hl
    · exact absurd hfx (h5 k x (Nat.zero_le _) hl hx)
    · rw [hx] at h2; cases h2; exact h4
    · exact absurd h3 (hmin k' y hl h2)
theorem Best.lacks {l : List Cp} {m : Int} {t : Ty} {wd : Int} {r : Int} (h : Best l m t wd 0 r) (hf : LacksFit l m t wd l.length) : r = 0 := by
  rcases h with ⟨h1, _⟩ | ⟨k, y, _, h2, h3, _⟩
  · exact h1
  · exact absurd h3 (hf k y (List.getElem?_eq_some_iff.1 h2).1 h2)

/-- Only the cache at B and what lies from bs on may have turned. -/
def KB (B bs : Nat) (w w' : World) : Prop := ∃ M, (∀ y ∈ M, y = B ∨ bs ≤ y) ∧ Kept M w w'
theorem KB.refl (B bs : Nat) (w : World) : KB B bs w w := ⟨[], by simp, Kept.refl _ _⟩
theorem KB.of {B bs : Nat} {w w' : World} (h : Kept [] w w') : KB B bs w w' := ⟨[], by simp, h⟩
theorem KB.trans {B bs : Nat} {a b c : World} (h : KB B bs a b) (k : KB B bs b c) : KB B bs a c := by
  obtain ⟨M', h1, h2⟩ := h
  obtain ⟨M, k1, k2⟩ := k
  refine ⟨M' ++ M, fun y hy => ?_, (h2.mono (M' := M' ++ M) (fun x hx => .inl (by simp [hx]))).trans (k2.mono (M' := M' ++ M) (fun x hx => .inl (by simp [hx])))⟩
  rcases List.mem_append.1 hy with hy | hy
  · exact h1 y hy
  · exact k1 y hy
theorem KB.size {B bs : Nat} {a b : World} (h : KB B bs a b) : a.heap.size ≤ b.heap.size := by obtain ⟨_, _, h⟩ := h; exact h.size
theorem KB.kept {B bs : Nat} {w a b : World} (h : KB B bs a b) (k : Kept [] w a) (h1 : w.heap.size ≤ B) (h2 : w.heap.size ≤ bs) : Kept [] w b := by
  obtain ⟨M, h3, h4⟩ := h
  exact k.trans' h4 (fun x hx => .inr (by rcases h3 x hx with h | h <;> omega))

/-- The cache of the law: at most n codes were added; each has a number from 1 on. -/
structure FVl (w : World) (B bs : Nat) (mp : Value) (n : Nat) (last : Int) (l : List Cp) : Prop where
  low : 0 ≤ last
  high : last ≤ n
  len : l.length ≤ 30
  ids : ∀ x ∈ l, 1 ≤ x.id
  cch : Cch 1 w B bs 30 last mp l
def FV (w : World) (B bs : Nat) (mp : Value) (n : Nat) : Prop := ∃ last l, FVl w B bs mp n last l
theorem FVl.more {w : World} {B bs : Nat} {mp : Value} {n n' : Nat} {last : Int} {l : List Cp} (h : FVl w B bs mp n last l) (hn : n ≤ n') : FVl w B bs mp n' last l := ⟨h.low, by have := h.high; omega, h.len, h.ids, h.cch⟩
theorem FVl.kept {w w' : World} {B bs : Nat} {mp : Value} {n : Nat} {last : Int} {l : List Cp} (h : FVl w B bs mp n last l) (k : Kept [] w w') : FVl w' B bs mp n last l := ⟨h.low, h.high, h.len, h.ids, h.cch.kept k (by simp)⟩

theorem FV.more {w : World} {B bs : Nat} {mp : Value} {n n' : Nat} (h : FV w B bs mp n) (hn : n ≤ n') : FV w B bs mp n' := by
  obtain ⟨last, l, h⟩ := h
  exact ⟨last, l, h.more hn⟩
/-- The slice of the codes lies below lim. -/
def Lim (w : World) (B lim : Nat) : Prop := ∀ v x, w.cell? ⟨B, 2, none⟩ = some v → v.ownBlock = some x → x < lim
theorem FV.lim {w w' : World} {B bs : Nat} {mp : Value} {n : Nat} (h : FV w B bs mp n) (k : Kept [] w w') : Lim w' B w.heap.size := by
  obtain ⟨last, l, h⟩ := h
  obtain ⟨_, _, v, hb, hg⟩ := h.cch
  intro v' x hv hx
  have hc := (hb.kept k (by simp)).cell 2 _ rfl
  rw [hc] at hv
  cases hv
  exact (hg.lt x hx).2
/-- .. and only the cache at B and what lies from bs on below lim may have turned. -/
def KL (B bs lim : Nat) (w w' : World) : Prop := ∃ M, (∀ y ∈ M, y = B ∨ (bs ≤ y ∧ y < lim)) ∧ Kept M w w'
theorem KL.of {B bs lim : Nat} {w w' : World} (h : Kept [] w w') : KL B bs lim w w' := ⟨[], by simp, h⟩
theorem KL.kb {B bs lim : Nat} {w w' : World} (h : KL B bs lim w w') : KB B bs w w' := by
  obtain ⟨M, h1, h2⟩ := h
  exact ⟨M, fun y hy => (h1 y hy).imp id (fun h => h.1), h2⟩

/-- What is returned is a pair of numbers. -/
def Pair2 (e : Ending) : Prop := ∃ a b : Int, e = .returned (.tuple #[.int .i64 a, .int .i64 b])
def One1 (e : Ending) : Prop := ∃ a : Int, e = .returned (.int .i64 a)

set_option maxRecDepth 100000 in
set_option maxHeartbeats 1600000 in
/-- A code that ends before it begins is not added. -/
theorem cacheAddRange (d : Nat) (b base : Nat) (cap last : Int) (mp : Value) (l : List Cp) (xi xm tk : Int) (tn : ByteArray) (ti xf xu : Int) (a1 a2 : Option Addr) (n1 n2 c1 c2 : Nat) (w : World)
    (h : Cch d w b base cap last mp l) (hm : 1 ≤ xm) (hf : 1 ≤ xf) (hu : xu ≤ xf) (h0 : xu ≠ 0) :
    Calls Tryd.prog 9 #[.pointer (some ⟨b, 0, none⟩), .agg #[.int .i64 xi, .int .i64 xm, .int .i64 tk, .string tn, .int .i64 ti, .slice a1 n1 c1, .int .i64 xf, .int .i64 xu, .int .i64 0, .int .i64 0, .slice none 0 0, .slice none 0 0, .slice none 0 0, .slice a2 n2 c2]] w fun e w' => e = .returned (.tuple #[.int .i64 0, .int .i64 1]) ∧ Kept [] w w' := by
  obtain ⟨a, c, g1, g2, g3, g4, e0, e1, e2, e3, hb, hg, h5⟩ := h.form
  have hbl := hb.lt
  clear h hb hg h5 e1 e3
  have q1 : decide (xm < 1) = false := by simp; omega
  have q2 : decide (xf < 1) = false := by simp; omega
  have q3 : (xu != 0) = true := by simpa using h0
  have q5 : decide (xu ≤ xf) = true := by simpa using hu
  go_enter Tryd.func9, Tryd.ntmps9
  go_wp2
  go_ret2
  exact ⟨rfl, (Kept.refl [] w).alloc _⟩

set_option maxRecDepth 100000 in
set_option maxHeartbeats 1600000 in
/-- A full cache takes no more: a code without an end. -/
theorem cacheAddFull0 (d : Nat) (b base : Nat) (cap last : Int) (mp : Value) (l : List Cp) (xi xm tk : Int) (tn : ByteArray) (ti xf : Int) (a1 a2 : Option Addr) (n1 n2 c1 c2 : Nat) (w : World)
    (h : Cch d w b base cap last mp l) (hm : 1 ≤ xm) (hf : 1 ≤ xf) (hcap : cap ≤ (l.length : Int)) (_hll : l.length ≤ 100000) :
    Calls Tryd.prog 9 #[.pointer (some ⟨b, 0, none⟩), .agg #[.int .i64 xi, .int .i64 xm, .int .i64 tk, .string tn, .int .i64 ti, .slice a1 n1 c1, .int .i64 xf, .int .i64 0, .int .i64 0, .int .i64 0, .slice none 0 0, .slice none 0 0, .slice none 0 0, .slice a2 n2 c2]] w fun e w' => e = .returned (.tuple #[.int .i64 0, .int .i64 8]) ∧ Kept [] w w' := by
  obtain ⟨a, c, g1, g2, g3, g4, e0, e1, e2, e3, hb, hg, h5⟩ := h.form
  have hbl := hb.lt
  clear h hb hg h5 e1 e3
  have q1 : decide (xm < 1) = false := by simp; omega
  have q2 : decide (xf < 1) = false := by simp; omega
  have q4 : decide ((l.length : Int) ≥ cap) = true := by simpa using hcap
  go_enter Tryd.func9, Tryd.ntmps9
  go_wp2
  go_quiet (fail)
  all_goals go_wp2
  all_goals
    go_ret2
    exact ⟨rfl, ((Kept.refl [] w).alloc _).drewN _⟩

theorem ids_snoc {l : List Cp} (h : ∀ x ∈ l, 1 ≤ x.id) {x : Cp} (hx : 1 ≤ x.id) : ∀ y ∈ l ++ [x], 1 ≤ y.id := by
  intro y hy
  rcases List.mem_append.1 hy with hy | hy
  · exact h y hy
  · simp at hy; subst hy; exact hx

/-- One addition. -/
theorem fvAdd {S : Nat → Prop} (B bs : Nat) (mp : Value) (n : Nat) (xi xm tk : Int) (tn : ByteArray) (ti xf xu : Int) (ta : List Ty) (a1 : Option Addr) (c1 : Nat) (w : World)
    (h : FV w B bs mp n) {lim : Nat} (hlim : Lim w B lim) (hn : n ≤ 1000) (hm : 1 ≤ xm) (hf : 1 ≤ xf) (ht : TR 1 S w (.slice a1 ta.length c1) ta) (hSb : ¬ S B) :
    Calls Tryd.prog 9 #[.pointer (some ⟨B, 0, none⟩), .agg #[.int .i64 xi, .int .i64 xm, .int .i64 tk, .string tn, .int .i64 ti, .slice a1 ta.length c1, .int .i64 xf, .int .i64 xu, .int .i64 0, .int .i64 0, .slice none 0 0, .slice none 0 0, .slice none 0 0, .slice none 0 0]] w fun e w' => Pair2 e ∧ FV w' B bs mp (n + 1) ∧ KL B bs lim w w' := by
  obtain ⟨last, l, h1, h2, h3, h4, h5⟩ := h
  have hlen : l.length ≤ 100000 := by omega
  by_cases hr : xu ≠ 0 ∧ xu ≤ xf
  · refine (cacheAddRange 1 B bs 30 last mp l xi xm tk tn ti xf xu a1 none ta.length 0 c1 0 w h5 hm hf hr.2 hr.1).mono ?_
    rintro e w' ⟨rfl, hk⟩
    exact ⟨⟨_, _, rfl⟩, ⟨last, l, h1, by omega, h3, h4, h5.kept hk (by simp)⟩, .of hk⟩
  have hu : xu = 0 ∨ xf < xu := by omega
  by_cases hc : l.length < 30
  · refine (cacheAddOwn 1 B bs 30 last mp l xi xm tk tn ti xf xu ta [] a1 none c1 0 w h5 hm hf hu (by omega) h1 (by omega) hlen ht (Reads.nil _ _ _) (by decide) hSb).mono ?_
    rintro e w' ⟨rfl, hc', ⟨v, hv, hM, hk⟩⟩
    refine ⟨⟨_, _, rfl⟩, ⟨last + 1, _, by omega, by omega, by simp; omega, ids_snoc h4 (by show 1 ≤ last + 1; omega), hc'⟩, _, fun y hy => ?_, hk⟩
    rcases List.mem_cons.1 hy with rfl | hy
    · exact .inl rfl
    · have hy' : v.ownBlock = some y := by simpa using hy
      exact .inr ⟨(hM y hy').1, hlim v y hv hy'⟩
  · rcases hu with rfl | hu
    · refine (cacheAddFull0 1 B bs 30 last mp l xi xm tk tn ti xf a1 none ta.length 0 c1 0 w h5 hm hf (by omega) hlen).mono ?_
      rintro e w' ⟨rfl, hk⟩
      exact ⟨⟨_, _, rfl⟩, ⟨last, l, h1, by omega, h3, h4, h5.kept hk (by simp)⟩, .of hk⟩
    · refine (cacheAddFull 1 B bs 30 last mp l xi xm tk tn ti xf xu a1 none ta.length 0 c1 0 w h5 hm hf hu (by omega) hlen (by omega)).mono ?_
      rintro e w' ⟨rfl, hk⟩
      exact ⟨⟨_, _, rfl⟩, ⟨last, l, h1, by omega, h3, h4, h5.kept hk (by simp)⟩, .of hk⟩

theorem ids_end {l : List Cp} (h : ∀ x ∈ l, 1 ≤ x.id) {k : Nat} {x : Cp} (hx : l[k]? = some x) (wd : Int) : ∀ y ∈ endAt l k x wd, 1 ≤ y.id := by
  intro y hy
  unfold endAt at hy
  rcases List.mem_or_eq_of_mem_set hy with hy | rfl
  · exact h y hy
  · exact h x (List.mem_of_getElem? hx)

/-- One invalidation. -/
theorem fvInval (B bs : Nat) (mp : Value) (n : Nat) (i wd : Int) (w : World) (h : FV w B bs mp n) {lim : Nat} (hlim : Lim w B lim) :
    Calls Tryd.prog 10 #[.pointer (some ⟨B, 0, none⟩), .int .i64 i, .int .i64 wd] w fun e w' => One1 e ∧ FV w' B bs mp n ∧ KL B bs lim w w' := by
  obtain ⟨last, l, h1, h2, h3, h4, h5⟩ := h
  refine (cacheInvalidate 1 B bs 30 last mp l i wd w h5 (by omega)).mono ?_
  rintro e w' (⟨rfl, _, hk⟩ | ⟨k, x, hf, ⟨_, rfl, hk⟩ | ⟨_, _, rfl, hk⟩ | ⟨_, _, rfl, hc, g, n', c', hv, hg, hk⟩⟩)
  · exact ⟨⟨_, rfl⟩, ⟨last, l, h1, h2, h3, h4, h5.kept hk (by simp)⟩, .of hk⟩
  · exact ⟨⟨_, rfl⟩, ⟨last, l, h1, h2, h3, h4, h5.kept hk (by simp)⟩, .of hk⟩
  · exact ⟨⟨_, rfl⟩, ⟨last, l, h1, h2, h3, h4, h5.kept hk (by simp)⟩, .of hk⟩
  · exact ⟨⟨_, rfl⟩, ⟨last, _, h1, h2, by unfold endAt; simpa using h3, ids_end h4 hf.1 wd, hc⟩, [g], fun y hy => .inr (by simp at hy; subst hy; exact ⟨hg, hlim _ y hv rfl⟩), hk⟩

/-- One removal. -/
theorem fvRemove (B bs lim : Nat) (mp : Value) (n : Nat) (i : Int) (w : World) (h : FV w B bs mp n) :
    Calls Tryd.prog 11 #[.pointer (some ⟨B, 0, none⟩), .int .i64 i] w fun e w' => One1 e ∧ FV w' B bs mp n ∧ KL B bs lim w w' := by
  obtain ⟨last, l, h1, h2, h3, h4, h5⟩ := h
  by_cases hg : ∃ k x, Finds l i k x ∧ x.unt ≠ 0
  · obtain ⟨k, x, hf, hu⟩ := hg
    refine (cacheRemove 1 B bs 30 last mp l i k x w h5 hf hu (by omega)).mono ?_
    rintro e w' ⟨rfl, hc, hk⟩
    refine ⟨⟨_, rfl⟩, ⟨last, _, h1, h2, by simp; omega, fun y hy => ?_, hc⟩, [B], by simp, hk⟩
    rcases List.mem_append.1 hy with hy | hy
    · exact h4 y (List.mem_of_mem_take hy)
    · exact h4 y (List.mem_of_mem_drop hy)
  · refine (cacheRemoveBad 1 B bs 30 last mp l i w h5 (by omega) (fun k x hf => Classical.byContradiction fun hu => hg ⟨k, x, hf, hu⟩)).mono ?_
    rintro e w' ⟨he, hk⟩
    refine ⟨?_, ⟨last, l, h1, h2, h3, h4, h5.kept hk (by simp)⟩, .of hk⟩
    rcases he with ⟨rfl, _⟩ | ⟨rfl, _⟩ <;> exact ⟨_, rfl⟩
end Go.Proofs.YtkldomkooleecaaDoor
