/- Walks: comparison of dependencies that are alike. -/
import Derived.Test.YtkldomkooleecaaGreatDoorDepOwn
import Derived.Test.YtkldomkooleecaaGreatDoorRefCmp
namespace Go.Proofs.YtkldomkooleecaaGreatDoor
open Go.RowKit

set_option maxRecDepth 100000 in
set_option maxHeartbeats 1600000 in
theorem eqResolutions {S S' : Nat → Prop} (k : Int) (l : List Int) (e e' : Value) (w : World) (h : Reads S w e 1 (irows l)) (h' : Reads S' w e' 1 (irows l)) :
    Calls Tryz.prog 38 #[.agg #[.int .i64 k, e], .agg #[.int .i64 k, e']] w fun q w' => q = .returned (.bool true) ∧ Kept [] w w' := by
  obtain ⟨a1, c1, rfl, h1, h2, h3⟩ := h.ints
  obtain ⟨a2, c2, rfl, g1, g2, g3⟩ := h'.ints
  have hn : ((l.length : Int) != (l.length : Int)) = false := by simp
  have hkk : (k != k) = false := by simp
  have H3 := Lib.hid h3
  have G3 := Lib.hid g3
  clear h3 g3 h h'
  go_enter Tryz.func38, Tryz.ntmps38
  go_wp2
  obtain ⟨W1, hW1⟩ : ∃ W1 : World, W1 = (w.alloc (.cells #[.int .i64 k, .slice a1 l.length c1] 43)).alloc (.cells #[.int .i64 k, .slice a2 l.length c2] 43) := ⟨_, rfl⟩
  have hkW : Kept [] w W1 := by rw [hW1]; exact ((Kept.refl [] w).alloc _).alloc _
  have HX : Hid (Blk W1 w.heap.size [.int .i64 k, .slice a1 l.length c1] 43) := by rw [hW1]; exact Blk.old w _ _ _
  have HY : Hid (Blk W1 (w.heap.size + 1) [.int .i64 k, .slice a2 l.length c2] 43) := by rw [hW1]; exact halloc_new _ _ _ (by simp)
  rw [← hW1]
  clear hW1
  go_loopw [5] (fun i wr => ∃ n : Nat, n ≤ l.length ∧ i = .int .i64 n ∧ Kept [] W1 wr) (fun i _ => l.length - (intOf i).toNat)
  case atStart => exact ⟨0, Nat.zero_le _, rfl, Kept.refl _ _⟩
  case round =>
    obtain ⟨n, hk, rfl, hb⟩ := hrel
    have x1 := (HX.out.kept hb (by simp)).cell 1 _ rfl
    have y1 := (HY.out.kept hb (by simp)).cell 1 _ rfl
    by_cases hlt : n < l.length
    · have hne : l ≠ [] := by rintro rfl; simp at hlt
      obtain ⟨b1, o1, rfl, _, hb1, hc1⟩ := H3.out.resolve_left hne
      obtain ⟨b2, o2, rfl, _, hb2, hc2⟩ := G3.out.resolve_left hne
      obtain ⟨x, hx⟩ := getx l n hlt
      have cx1 := (hkW.trans hb).cell' (hc1 n x hx) (by simp)
      have cx2 := (hkW.trans hb).cell' (hc2 n x hx) (by simp)
      have hxx : (x != x) = false := by simp
      have hlt' : (n : Int) < l.length := by omega
      clear hc1 hc2 hx H3 G3 hne
      go_wp2
      go_quiet (fail)
      go_wp2
      go_roundw
      case rel => exact ⟨n + 1, by omega, by go_num, hb.drewN _⟩
      case measure => simp [intOf]; omega
    · go_wp2
      go_ret
      exact ⟨rfl, hkW.trans hb⟩

set_option maxRecDepth 100000 in
set_option maxHeartbeats 6400000 in
theorem eqDeps (d : Nat) {S S' : Nat → Prop} (v v' : Value) (l : List Dp) (w : World) (h : DL d S w v l) (h' : DL d S' w v' l) :
    Calls Tryz.prog 17 #[v, v'] w fun e w' => e = .returned (.bool true) ∧ Kept [] w w' := by
  obtain ⟨a1, c1, rfl, h1, h2, h3⟩ := h.form
  obtain ⟨a2, c2, rfl, g1, g2, g3⟩ := h'.form
  have hn : ((l.length : Int) != (l.length : Int)) = false := by simp
  have H3 := Lib.hid h3
  have G3 := Lib.hid g3
  clear h3 g3 h h'
  go_enter Tryz.func17, Tryz.ntmps17
  go_wp2
  go_loopw [5] (fun i wr => ∃ k : Nat, k ≤ l.length ∧ i = .int .i64 k ∧ Kept [] w wr) (fun i _ => l.length - (intOf i).toNat)
  case atStart => exact ⟨0, Nat.zero_le _, rfl, Kept.refl _ _⟩
  case round =>
    obtain ⟨k, hk, rfl, hkr⟩ := hrel
    by_cases hlt : k < l.length
    · have hne : l ≠ [] := by rintro rfl; simp at hlt
      obtain ⟨b1, o1, rfl, _, hb1, hc1⟩ := H3.out.resolve_left hne
      obtain ⟨b2, o2, rfl, _, hb2, hc2⟩ := G3.out.resolve_left hne
      obtain ⟨x, hx⟩ := getp l k hlt
      obtain ⟨qa, qc, ra, rc, hq1, hq2, hq3, _⟩ := hc1 k x hx
      obtain ⟨qa', qc', ra', rc', hq4, hq5, hq6, _⟩ := hc2 k x hx
      have m1 := hkr.range hq1 (by simp)
      have m2 := hkr.range hq4 (by simp)
      have HQ2 := Lib.hid ((TR.good d).kept hq2 hkr (by simp))
      have HQ5 := Lib.hid ((TR.good d).kept hq5 hkr (by simp))
      have HQ3 := Lib.hid (hq3.kept hkr (by simp))
      have HQ6 := Lib.hid (hq6.kept hkr (by simp))
      obtain ⟨xf, ⟨tk, tn, ti, ta⟩, xk, xl⟩ := x
      simp only [Dp.row, vfst_pair, vsnd_pair, Ty.kind, Ty.name, Ty.index, Ty.args] at m1 m2 HQ2 HQ5 HQ3 HQ6 ⊢
      have hlt' : (k : Int) < l.length := by omega
      obtain ⟨wo, hwo⟩ : ∃ wo : World, wo = wr := ⟨_, rfl⟩
      subst hwo
      have hb1' : b1 < wo.heap.size := Nat.lt_of_lt_of_le hb1 hkr.size
      have hb2' : b2 < wo.heap.size := Nat.lt_of_lt_of_le hb2 hkr.size
      have HM1 := Lib.hid m1
      have HM2 := Lib.hid m2
      have HKF : Hid (∀ w', Kept [] wo w' → w'.cell? ⟨b1, o1 + k * 7, none⟩ = some (.string xf) ∧ w'.cell? ⟨b1, o1 + k * 7 + 1, none⟩ = some (.int .i64 tk) ∧ w'.cell? ⟨b1, o1 + k * 7 + 2, none⟩ = some (.string tn) ∧ w'.cell? ⟨b1, o1 + k * 7 + 3, none⟩ = some (.int .i64 ti) ∧ w'.cell? ⟨b1, o1 + k * 7 + 4, none⟩ = some (.slice qa ta.length qc) ∧ w'.cell? ⟨b1, o1 + k * 7 + 5, none⟩ = some (.int .i64 xk) ∧ w'.cell? ⟨b1, o1 + k * 7 + 6, none⟩ = some (.slice ra xl.length rc) ∧
          w'.cell? ⟨b2, o2 + k * 7, none⟩ = some (.string xf) ∧ w'.cell? ⟨b2, o2 + k * 7 + 1, none⟩ = some (.int .i64 tk) ∧ w'.cell? ⟨b2, o2 + k * 7 + 2, none⟩ = some (.string tn) ∧ w'.cell? ⟨b2, o2 + k * 7 + 3, none⟩ = some (.int .i64 ti) ∧ w'.cell? ⟨b2, o2 + k * 7 + 4, none⟩ = some (.slice qa' ta.length qc') ∧ w'.cell? ⟨b2, o2 + k * 7 + 5, none⟩ = some (.int .i64 xk) ∧ w'.cell? ⟨b2, o2 + k * 7 + 6, none⟩ = some (.slice ra' xl.length rc')) := Lib.hid (fun w' hk =>
        have p1 := hk.range HM1.out (by simp)
        have p2 := hk.range HM2.out (by simp)
        ⟨p1 0 _ rfl, p1 1 _ rfl, p1 2 _ rfl, p1 3 _ rfl, p1 4 _ rfl, p1 5 _ rfl, p1 6 _ rfl, p2 0 _ rfl, p2 1 _ rfl, p2 2 _ rfl, p2 3 _ rfl, p2 4 _ rfl, p2 5 _ rfl, p2 6 _ rfl⟩)
      have HTE : Hid (∀ W, Kept [] wo W → Calls Tryz.prog 37 #[.agg #[.int .i64 tk, .string tn, .int .i64 ti, .slice qa ta.length qc], .agg #[.int .i64 tk, .string tn, .int .i64 ti, .slice qa' ta.length qc']] W fun q w' => q = .returned (.bool true) ∧ Kept [] wo w') := Lib.hid (fun W hW => by
        refine (termEqual d tk tk tn tn ti ti ta ta _ _ W ((TR.good d).kept HQ2.out hW (by simp)) ((TR.good d).kept HQ5.out hW (by simp))).mono ?_
        rintro q w' ⟨r, rfl, hr, hk⟩
        exact ⟨by rw [hr.2 rfl], hW.trans hk⟩)
      have HRE : Hid (∀ W, Kept [] wo W → Calls Tryz.prog 38 #[.agg #[.int .i64 xk, .slice ra xl.length rc], .agg #[.int .i64 xk, .slice ra' xl.length rc']] W fun q w' => q = .returned (.bool true) ∧ Kept [] wo w') := Lib.hid (fun W hW => by
        refine (eqResolutions xk xl _ _ W (HQ3.out.kept hW (by simp)) (HQ6.out.kept hW (by simp))).mono ?_
        rintro q w' ⟨rfl, hk⟩
        exact ⟨rfl, hW.trans hk⟩)
      clear hx hc1 hc2 hne H3 G3 hq1 hq2 hq3 hq4 hq5 hq6 m1 m2
      go_upto_region 6 with (fail)
      go_region_held3 (fun w' => w'.cell? ⟨b1, o1 + k * 7, none⟩ = some (.string xf) ∧ w'.cell? ⟨b1, o1 + k * 7 + 1, none⟩ = some (.int .i64 tk) ∧ w'.cell? ⟨b1, o1 + k * 7 + 2, none⟩ = some (.string tn) ∧ w'.cell? ⟨b1, o1 + k * 7 + 3, none⟩ = some (.int .i64 ti) ∧ w'.cell? ⟨b1, o1 + k * 7 + 4, none⟩ = some (.slice qa ta.length qc) ∧ w'.cell? ⟨b1, o1 + k * 7 + 5, none⟩ = some (.int .i64 xk) ∧ w'.cell? ⟨b1, o1 + k * 7 + 6, none⟩ = some (.slice ra xl.length rc) ∧
          w'.cell? ⟨b2, o2 + k * 7, none⟩ = some (.string xf) ∧ w'.cell? ⟨b2, o2 + k * 7 + 1, none⟩ = some (.int .i64 tk) ∧ w'.cell? ⟨b2, o2 + k * 7 + 2, none⟩ = some (.string tn) ∧ w'.cell? ⟨b2, o2 + k * 7 + 3, none⟩ = some (.int .i64 ti) ∧ w'.cell? ⟨b2, o2 + k * 7 + 4, none⟩ = some (.slice qa' ta.length qc') ∧ w'.cell? ⟨b2, o2 + k * 7 + 5, none⟩ = some (.int .i64 xk) ∧ w'.cell? ⟨b2, o2 + k * 7 + 6, none⟩ = some (.slice ra' xl.length rc'))
        (first | with_reducible exact HKF.out _ hk9 | with_reducible exact HKF.out _ ((Kept.refl [] wo).drew))
        (first
          | (go_at_call 37; (refine Calls.mono (HTE.out _ (by first | exact hk9 | exact (Kept.refl [] wo).drew)) ?_; rintro q w3 ⟨rfl, hk9⟩))
          | (go_at_call 38; (refine Calls.mono (HRE.out _ (by first | exact hk9 | exact (Kept.refl [] wo).drew)) ?_; rintro q w3 ⟨rfl, hk9⟩)))
      all_goals go_wp2
      all_goals
        go_roundw
        case rel => exact ⟨k + 1, by omega, by go_num, hkr.trans hk9⟩
        case measure => simp [intOf]; omega
    · go_wp2
      go_ret
      exact ⟨rfl, hkr⟩
end Go.Proofs.YtkldomkooleecaaGreatDoor
