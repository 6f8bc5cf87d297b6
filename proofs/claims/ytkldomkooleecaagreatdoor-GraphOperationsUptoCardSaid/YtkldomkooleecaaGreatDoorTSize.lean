/- Walks: the size of a type term. -/
import Derived.Test.YtkldomkooleecaaGreatDoorMOpen
namespace Go.Proofs.YtkldomkooleecaaGreatDoor
open Go.RowKit

theorem nodesL_take : ∀ (l : List Ty) (k : Nat) (x : Ty), l[k]? = some x → nodesL (l.take (k + 1)) = nodesL (l.take k) + nodes x
  | [], k, x, h => by simp at h
  | a :: l, 0, x, h => by simp at h; subst h; simp [nodesL]
  | a :: l, k + 1, x, h => by
    have := nodesL_take l k x (by simpa using h)
    rw [List.take_succ_cons, List.take_succ_cons, nodesL, nodesL, this]
    omega

/-- What the size of the terms so far is, counted from n on. -/
def SizeIs (n r : Int) (m : Nat) : Prop := n ≤ r ∧ r ≤ 1000 ∧ (r < 1000 → r = n + m)
/-- The call's law at a term. -/
def SizeCall (W0 : World) (x : Ty) (e : Value) : Prop := ∀ (n : Int) (w : World), Kept [] W0 w → 0 ≤ n → n < 1000 →
  Calls Tryz.prog 29 #[.agg #[.int .i64 x.kind, .string x.name, .int .i64 x.index, e], .int .i64 n] w fun q w' => ∃ r : Int, q = .returned (.int .i64 r) ∧ SizeIs n r (nodes x) ∧ Kept [] w w'

set_option maxRecDepth 100000 in
set_option maxHeartbeats 3200000 in
theorem sizeStep (W0 : World) (xk xi : Int) (xn : ByteArray) (l : List Ty) (a : Option Addr) (c : Nat) (hc : l.length ≤ c) (hc9 : c ≤ 9223372036854775807)
    (hel : l = [] ∨ ∃ b off, a = some ⟨b, off, none⟩ ∧ b < W0.heap.size ∧ ∀ (k : Nat) (y : Ty), l[k]? = some y → ∃ qa qc, W0.rangeAt b (off + k * 4) (y.row (.slice qa y.args.length qc)) ∧ SizeCall W0 y (.slice qa y.args.length qc)) :
    SizeCall W0 (.mk xk xn xi l) (.slice a l.length c) := by
  intro n w hk0 hn0 hn1
  have HEL := Lib.hid hel
  have HK0 := Lib.hid hk0
  clear hel hk0
  show Calls Tryz.prog 29 #[.agg #[.int .i64 xk, .string xn, .int .i64 xi, .slice a l.length c], .int .i64 n] w _
  go_enter Tryz.func29, Tryz.ntmps29
  go_wp2
  obtain ⟨W1, hW1⟩ : ∃ W1 : World, W1 = w.alloc (.cells #[.int .i64 xk, .string xn, .int .i64 xi, .slice a l.length c] 39) := ⟨_, rfl⟩
  obtain ⟨Y, hY⟩ : ∃ Y, Y = w.heap.size := ⟨_, rfl⟩
  have HY : Hid (Blk W1 Y [.int .i64 xk, .string xn, .int .i64 xi, .slice a l.length c] 39) := by rw [hW1, hY]; exact Blk.new w _ _
  have HK1 : Hid (Kept [] w W1) := by rw [hW1]; exact (Kept.refl [] w).alloc _
  rw [← hW1, ← hY]
  clear hW1 hY
  go_loopw [1, 5] (fun rv q wr => ∃ (k : Nat) (r : Int), k ≤ l.length ∧ q = .int .i64 k ∧ rv = .int .i64 r ∧ n + 1 ≤ r ∧ r ≤ 1000 ∧ Hid (r < 1000 → r = n + 1 + nodesL (l.take k)) ∧ Kept [] W1 wr) (fun _ q _ => l.length - (intOf q).toNat)
  case atStart => exact ⟨0, n + 1, Nat.zero_le _, rfl, rfl, by omega, by omega, by simp [Hid, nodesL], Kept.refl _ _⟩
  case round =>
    obtain ⟨k, r, hk, rfl, rfl, hr0, hr1, hr2, hkr⟩ := hrel
    obtain ⟨wo, hwo⟩ : ∃ wo : World, wo = wr := ⟨_, rfl⟩
    subst hwo
    have HY1 := Lib.hid (HY.out.kept hkr (by simp))
    obtain ⟨⟨y0, y1, y2, y3⟩, _⟩ := HY1.out.four
    have hYr : Y < wo.heap.size := HY1.out.lt
    by_cases hlt : k < l.length
    · have d1 : decide ((k : Int) < l.length) = true := by simp; omega
      by_cases hr : r < 1000
      · have d2 : decide (r < 1000) = true := by simpa using hr
        have hne : l ≠ [] := by rintro rfl; simp at hlt
        obtain ⟨b1, o1, rfl, hb1, hc1⟩ := HEL.out.resolve_left hne
        obtain ⟨x, hx⟩ : ∃ x, l[k]? = some x := ⟨l[k], by simp⟩
        obtain ⟨qa, qc, hrx, hsc⟩ := hc1 k x hx
        have HX := Lib.hid hx
        have HRG := Lib.hid (((HK0.out.trans HK1.out).trans hkr).range hrx (by simp))
        have HSC := Lib.hid hsc
        have hkc : k < c := by omega
        have hb1' : b1 < wo.heap.size := Nat.lt_of_lt_of_le hb1 ((HK0.out.trans HK1.out).trans hkr).size
        obtain ⟨xk', xn', xi', xa⟩ := x
        simp only [Ty.row, Ty.kind, Ty.name, Ty.index, Ty.args] at HRG HSC
        clear hrx hsc hx hc1 hne HEL hb1
        have hlt' : (k : Int) < l.length := by omega
        go_wp2_with (first
          | (refine wpList_load_mid rfl 39 (.tmp 22) rfl b1 (o1 + k * 4) rfl [.int .i64 xk', .string xn', .int .i64 xi', .slice qa xa.length qc] _ HRG.out Tryz.underlying39 rfl (by kernel_rfl) ?_)
          | (go_at_call 29; refine Calls.mono (HSC.out r _ (by exact ((HK0.out.trans HK1.out).trans hkr)) (by omega) hr) ?_; rintro e w2 ⟨r2, rfl, hs2, hk2⟩; have HS2 := Lib.hid hs2; have HK2 := Lib.hid hk2; clear hs2 hk2))
        obtain ⟨s1, s2, s3⟩ := HS2.out
        go_roundw
        case rel =>
          refine ⟨k + 1, r2, by omega, by go_num, rfl, by omega, s2, ?_, hkr.trans HK2.out⟩
          intro h
          have := s3 h
          have := hr2.out hr
          have := nodesL_take l k _ HX.out
          omega
        case measure => simp [intOf]; omega
      · have d2 : decide (r < 1000) = false := by simpa using hr
        clear HEL
        go_wp2
        go_ret
        refine ⟨r, rfl, ⟨by omega, hr1, fun h => by omega⟩, HK1.out.trans hkr⟩
    · have d1 : decide ((k : Int) < l.length) = false := by simp; omega
      clear HEL
      go_wp2
      go_ret
      refine ⟨r, rfl, ⟨by omega, hr1, fun h => ?_⟩, HK1.out.trans hkr⟩
      have := hr2.out h
      rw [show k = l.length by omega, List.take_length] at this
      rw [nodes]
      omega

theorem sizeCall (W0 : World) : ∀ (d : Nat) (S : Nat → Prop) (x : Ty) (e : Value), TU d S W0 e x.args → SizeCall W0 x e
  | 0, S, .mk xk xn xi l, e, h => by
    obtain ⟨a, c, rfl, h1, h2⟩ := h.form
    exact sizeStep W0 xk xi xn l a c h1 h2 (.inl h.1)
  | d + 1, S, .mk xk xn xi l, e, h => by
    obtain ⟨a, c, rfl, h1, h2⟩ := h.form
    refine sizeStep W0 xk xi xn l a c h1 h2 ?_
    obtain ⟨a', c', e', g1, g2, g3⟩ := Rd.form (Q := fun S w e (x : Ty) => TU d S w e x.args) h
    cases e'
    rcases g3 with g3 | ⟨b, off, rfl, _, hb, hc⟩
    · exact .inl g3
    · refine .inr ⟨b, off, rfl, hb, fun k y hy => ?_⟩
      obtain ⟨q, hr, _, hq⟩ := hc k y hy
      obtain ⟨qa, qc, rfl, _⟩ := hq.form
      exact ⟨qa, qc, hr, sizeCall W0 d S y _ hq⟩

set_option maxRecDepth 100000 in
theorem typeSize (d : Nat) {S : Nat → Prop} (xk : Int) (xn : ByteArray) (xi : Int) (l : List Ty) (a : Option Addr) (c : Nat) (w : World) (h : TU d S w (.slice a l.length c) l) :
    Calls Tryz.prog 13 #[.agg #[.int .i64 xk, .string xn, .int .i64 xi, .slice a l.length c]] w fun q w' => ∃ r : Int, q = .returned (.int .i64 r) ∧ (r ≤ 60 → nodes (.mk xk xn xi l) ≤ 60) ∧ Kept [] w w' := by
  have H := Lib.hid (sizeCall w d S (.mk xk xn xi l) _ h)
  clear h
  go_enter Tryz.func13, Tryz.ntmps13
  go_wp2_with (go_at_call 29; refine Calls.mono (H.out 0 _ (by exact (Kept.refl [] w).alloc _) (by decide) (by decide)) ?_; rintro e w2 ⟨r2, rfl, hs2, hk2⟩; have HS2 := Lib.hid hs2; have HK2 := Lib.hid (((Kept.refl [] w).alloc (.cells #[.int .i64 xk, .string xn, .int .i64 xi, .slice a l.length c] 39)).trans hk2); clear hs2 hk2)
  go_ret
  refine ⟨r2, rfl, fun h => ?_, HK2.out⟩
  obtain ⟨_, _, s3⟩ := HS2.out
  have := s3 (by omega)
  omega
end Go.Proofs.YtkldomkooleecaaGreatDoor
