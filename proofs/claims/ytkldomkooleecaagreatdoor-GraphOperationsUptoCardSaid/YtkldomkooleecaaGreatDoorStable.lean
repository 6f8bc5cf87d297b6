/- Walks: the sort of a row of dependencies (sort.SliceStable), up to 20 of them. -/
import Derived.Test.YtkldomkooleecaaGreatDoorLess
import Derived.Test.YtkldomkooleecaaGreatDoorStab
import Derived.Sort.LotA
namespace Go.Proofs.YtkldomkooleecaaGreatDoor
open Go.RowKit Go.Sort

section
variable {dd : Nat} {S : Nat → Prop} {g cap ob : Nat}
/-- The comparison at two elements of the row. -/
theorem SR.less {w : World} {d : Array El} (h : SR dd S w g cap d) (hob : w.cell? ⟨ob, 0, none⟩ = some (.slice (some ⟨g, 0, none⟩) d.size cap)) (hn : d.size ≤ 100000) {i j : Nat} (hi : i < d.size) (hj : j < d.size) :
    Calls Tryz.prog 44 (#[.int .i64 i, .int .i64 j] ++ #[.pointer (some ⟨ob, 0, none⟩)]) w fun e w' => e = .returned (.bool (elLt d[i]! d[j]!)) ∧ Kept [] w w' := by
  have ri := h.row hi
  have rj := h.row hj
  have di := h.each _ (get_mem hi)
  have dj := h.each _ (get_mem hj)
  unfold elLt
  generalize d[i]! = x at ri di ⊢
  generalize d[j]! = y at rj dj ⊢
  obtain ⟨⟨fx, ⟨xk, xn, xi, xa⟩, xd, xl⟩, x1, x2, x3, x4⟩ := x
  obtain ⟨⟨fy, ⟨yk, yn, yi, ya⟩, yd, yl⟩, y1, y2, y3, y4⟩ := y
  obtain ⟨_, _, e1, tx, _⟩ := di
  obtain ⟨_, _, e2, ty, _⟩ := dj
  cases e1
  cases e2
  have := lessCall dd (S := fun z => S z ∧ z ≠ g) (S' := fun z => S z ∧ z ≠ g) g cap ob d.size fx fy xk xi yk yi xn yn xa ya x1 y1 x2 y2 i j w hob
    (fun k v hk => by
      have := ri k v (by
        match k, hk with
        | 0, hk => exact hk
        | 1, hk => exact hk
        | 2, hk => exact hk
        | 3, hk => exact hk
        | 4, hk => exact hk
        | (k + 5), hk => simp at hk)
      rwa [show 0 + i * 7 + k = i * 7 + k by omega] at this)
    (fun k v hk => by
      have := rj k v (by
        match k, hk with
        | 0, hk => exact hk
        | 1, hk => exact hk
        | 2, hk => exact hk
        | 3, hk => exact hk
        | 4, hk => exact hk
        | (k + 5), hk => simp at hk)
      rwa [show 0 + j * 7 + k = j * 7 + k by omega] at this)
    tx ty hi hj hn
  exact this

set_option maxHeartbeats 3200000 in
set_option maxRecDepth 100000 in
theorem insSort (sf : Nat) (sb : Array Value) (a b : Nat) (d : Array El) (w : World) (h : SR dd S w g cap d) (hob : w.cell? ⟨ob, 0, none⟩ = some (.slice (some ⟨g, 0, none⟩) d.size cap)) (hne : ob ≠ g)
    (hswap : SwapSwapsK Tryz.prog sf sb El.enc 7 g 0 d.size) (hab : a ≤ b) (hb : b ≤ d.size) (hsz : d.size ≤ 100000) :
    Calls Tryz.prog 82 #[.agg #[.func (.func 44) #[] #[.pointer (some ⟨ob, 0, none⟩)], .func (.func sf) #[] sb], .int .i64 a, .int .i64 b] w fun e w' =>
      e = .returned (.tuple #[]) ∧ SR dd S w' g cap (Sort.insertionSort elLt d a b) ∧ Kept [g] w w' := by
  have e44 : ∀ args w, (callFunc 44 args).run Tryz.prog w = .ok (.enter 44 args) w := enters_of Tryz.func44 (by kernel_rfl) rfl
  have HS0 := Lib.hid h
  have HSW := Lib.hid hswap
  have hlt := h.lt
  clear h hswap
  go_enter Tryz.func82, Tryz.ntmps82
  go_wp2
  obtain ⟨wA, hwA⟩ : ∃ wA : World, wA = w.alloc (.cells #[.func (.func 44) #[] #[.pointer (some ⟨ob, 0, none⟩)], .func (.func sf) #[] sb] 117) := ⟨_, rfl⟩
  have hkA : Kept [] w wA := by rw [hwA]; exact (Kept.refl [] w).alloc _
  have HBA : Hid (Blk wA w.heap.size [.func (.func 44) #[] #[.pointer (some ⟨ob, 0, none⟩)], .func (.func sf) #[] sb] 117) := by rw [hwA]; exact Blk.new _ _ _
  rw [← hwA]
  clear hwA
  obtain ⟨A, hA⟩ : ∃ A, A = w.heap.size := ⟨_, rfl⟩
  rw [← hA] at HBA hlt ⊢
  clear hA
  have HSA := Lib.hid (HS0.out.kept hkA (by simp) (by simp))
  have HOB := Lib.hid (hkA.cell' hob (by simp))
  clear hob HS0
  have hAg : A ∉ [g] := by simp; omega
  have hog : ob ∉ [g] := by simpa using hne
  go_loopw [6] (fun vi wr => ∃ (i : Nat) (dk : Array El), vi = .int .i64 i ∧ a < i ∧ i ≤ b + 1 ∧ dk.size = d.size ∧ Hid (SR dd S wr g cap dk) ∧ Kept [g] wA wr ∧ Hid (insOuter elLt a b i dk = insOuter elLt a b (a + 1) d)) (fun vi _ => b + 1 - (intOf vi).toNat)
  case atStart => exact ⟨a + 1, d, by go_num, by omega, by omega, rfl, HSA, Kept.refl _ _, rfl⟩
  case round =>
    obtain ⟨i, dk, rfl, hai, hib, hsk, hsr, hkr, HO⟩ := hrel
    obtain ⟨wo, hwo⟩ : ∃ wo : World, wo = wr := ⟨_, rfl⟩
    subst hwo
    go_wp2
    · go_loopw [7] (fun vj wr2 => ∃ (j : Nat) (dj : Array El), vj = .int .i64 j ∧ a ≤ j ∧ j ≤ i ∧ dj.size = d.size ∧ Hid (SR dd S wr2 g cap dj) ∧ Kept [g] wA wr2 ∧ Hid (insInner elLt a j dj = insInner elLt a i dk)) (fun vj _ => (intOf vj).toNat)
      case atStart => exact ⟨i, dk, rfl, by omega, Nat.le_refl _, hsk, hsr, hkr, rfl⟩
      case round =>
        obtain ⟨j, dj, rfl, haj, hji, hsj, hsr2, hkr2, HI⟩ := hrel
        obtain ⟨wi, hwi⟩ : ∃ wi : World, wi = wr := ⟨_, rfl⟩
        subst hwi
        have hlti : i < b := by assumption
        have hbA := HBA.out.kept hkr2 hAg
        have c0 := hbA.cell 0 _ rfl
        have c1 := hbA.cell 1 _ rfl
        have HBI := Lib.hid hbA
        have HOBI : Hid (wi.cell? ⟨ob, 0, none⟩ = some (.slice (some ⟨g, 0, none⟩) dj.size cap)) := by rw [hsj]; exact hkr2.cell' HOB.out hog
        clear hbA
        have OUT : Hid ((j ≤ a ∨ elLt dj[j]! dj[j - 1]! = false) → insOuter elLt a b (i + 1) dj = insOuter elLt a b (a + 1) d) := fun hs => by
          rw [← HO.out, insOuter_go _ _ _ _ _ hlti, ← HI.out, insInner_stop _ _ _ _ hs]
        by_cases hja : a < j
        · have hl := hsr2.out.less HOBI.out (by omega) (i := j) (j := j - 1) (by omega) (by omega)
          rw [show (((j - 1 : Nat) : Int)) = (j : Int) - 1 by omega] at hl
          have hw0 : IntKind.i64.wrap ((j : Int) - 1) = (j : Int) - 1 := IntWalk.i64_in _ (by omega)
          cases hlv : elLt dj[j]! dj[j - 1]! with
          | true =>
            rw [hlv] at hl
            have HLV := Lib.hid hlv
            clear hlv
            go_wp2_with (go_at_fn 44; refine hl.mono ?_; rintro e w' ⟨rfl, hk9⟩; have HK9 := Lib.hid hk9; clear hk9; clear c0 c1; have c0 := (HBI.out.kept HK9.out (by simp)).cell 0 _ rfl; have c1 := (HBI.out.kept HK9.out (by simp)).cell 1 _ rfl)
            have hsr9 := hsr2.out.kept HK9.out (by simp) (by simp)
            have hs := HSW.out w' dj hsr9.holds hsj j (j - 1) (by omega) (by omega)
            rw [show (((j - 1 : Nat) : Int)) = (j : Int) - 1 by omega] at hs
            obtain ⟨q1, q2⟩ := hsr9.swap (i := j) (j := j - 1) (by omega) (by omega)
            obtain ⟨w9, hw9⟩ : ∃ w9 : World, w9 = ((w'.setCells g (0 + j * 7) dj[j - 1]!.enc).setCells g (0 + (j - 1) * 7) dj[j]!.enc) := ⟨_, rfl⟩
            rw [← hw9] at hs q1 q2
            clear hw9
            rw [hs, Oper.upon_value]
            have Q1 := Lib.hid q1
            have Q2 := Lib.hid q2
            have hkr9 := (hkr2.trans HK9.out.nil).trans q2
            have hi9 : Hid (insInner elLt a (j - 1) (swp dj j (j - 1)) = insInner elLt a i dk) := by rw [Hid, ← HI.out, insInner_go elLt a j dj hja HLV.out]
            clear q1 q2 hs hsr9 c0 c1
            go_wp2
            go_roundw
            case rel =>
              (repeat apply Exists.intro)
              exact ⟨⟨j - 1, swp dj j (j - 1), rfl, by omega, by omega, by rw [size_swp]; exact hsj, Q1, hkr9, hi9⟩, by rw [decide_eq_true hlti, show ((j - 1 : Nat) : Int) = (j : Int) - 1 by omega]⟩
            case measure => simp [intOf]; omega
          | false =>
            rw [hlv] at hl
            have HLV := Lib.hid hlv
            clear hlv
            go_wp2_with (go_at_fn 44; refine hl.mono ?_; rintro e w' ⟨rfl, hk9⟩; have hsr9 := Lib.hid (hsr2.out.kept hk9 (by simp) (by simp)); have hkr9 := hkr2.trans hk9.nil; clear hk9)
            have ho9 := OUT.out (.inr HLV.out)
            go_roundw
            case rel => exact ⟨i + 1, dj, by go_num, by omega, by omega, hsj, hsr9, hkr9, ho9⟩
            case measure => simp [intOf]; omega
        · have ho9 := OUT.out (.inl (by omega))
          go_wp2
          go_roundw
          case rel => exact ⟨i + 1, dj, by go_num, by omega, by omega, hsj, hsr2, hkr2, ho9⟩
          case measure => simp [intOf]; omega
    · have hge : ¬ i < b := by assumption
      go_end0
      refine ⟨rfl, ?_, (hkA.nil).trans hkr⟩
      unfold Sort.insertionSort
      rw [← HO.out, insOuter_stop _ _ _ _ _ hge]
      exact hsr.out
end
end Go.Proofs.YtkldomkooleecaaGreatDoor
