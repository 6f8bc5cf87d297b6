/- Walks: compiled codes compared. -/
import Derived.Test.YtkldomkooleecaaDoorOwnK
import Derived.Test.YtkldomkooleecaaDoorRefCmp
import Derived.Test.YtkldomkooleecaaDoorCache
import Derived.Deep.RegionHeld3
namespace Go.Proofs.YtkldomkooleecaaDoor
open Go.RowKit

set_option maxRecDepth 100000 in
set_option maxHeartbeats 1600000 in
theorem codeEqual_nil (w : World) : Calls Tryd.prog 48 #[.agg #[.int .i64 0, .int .i64 0, .slice none 0 0, .slice none 0 0], .agg #[.int .i64 0, .int .i64 0, .slice none 0 0, .slice none 0 0]] w fun e w' => e = .returned (.bool true) ∧ Kept [] w w' := by
  go_enter Tryd.func48, Tryd.ntmps48
  go_wp2
  go_loop [5] (fun i => i = .int .i64 0) (fun _ => 0)
  case atStart => rfl
  case round =>
    obtain rfl := hrel
    go_wp2
    go_loop [6] (fun i => i = .int .i64 0) (fun _ => 0)
    case atStart => rfl
    case round =>
      obtain rfl := hrel
      go_wp2
      go_ret
      exact ⟨rfl, ((Kept.refl [] w).alloc _).alloc _⟩
set_option maxRecDepth 100000 in
theorem eqDeps_nil (w : World) : Calls Tryd.prog 49 #[.slice none 0 0, .slice none 0 0] w fun e w' => e = .returned (.bool true) ∧ Kept [] w w' := by
  go_enter Tryd.func49, Tryd.ntmps49
  go_wp2
  go_loop [5] (fun i => i = .int .i64 0) (fun _ => 0)
  case atStart => rfl
  case round =>
    obtain rfl := hrel
    go_wp2
    go_ret
    exact ⟨rfl, Kept.refl _ _⟩

set_option maxRecDepth 100000 in
set_option maxHeartbeats 6400000 in
theorem eqCompiled (d : Nat) {S S' : Nat → Prop} (xi xm tk : Int) (tn : ByteArray) (ti xf xu : Int) (ta : List Ty) (xl : List Int) (a1 a2 b1 b2 : Option Addr) (c1 c2 k1 k2 : Nat) (w : World)
    (h1 : TR d S w (.slice a1 ta.length c1) ta) (h2 : Reads S w (.slice a2 xl.length c2) 1 (irows xl)) (h3 : TR d S' w (.slice b1 ta.length k1) ta) (h4 : Reads S' w (.slice b2 xl.length k2) 1 (irows xl)) :
    Calls Tryd.prog 32 #[.agg #[.int .i64 xi, .int .i64 xm, .int .i64 tk, .string tn, .int .i64 ti, .slice a1 ta.length c1, .int .i64 xf, .int .i64 xu, .int .i64 0, .int .i64 0, .slice none 0 0, .slice none 0 0, .slice none 0 0, .slice a2 xl.length c2],
      .agg #[.int .i64 xi, .int .i64 xm, .int .i64 tk, .string tn, .int .i64 ti, .slice b1 ta.length k1, .int .i64 xf, .int .i64 xu, .int .i64 0, .int .i64 0, .slice none 0 0, .slice none 0 0, .slice none 0 0, .slice b2 xl.length k2]] w fun e w' => e = .returned (.bool true) ∧ Kept [] w w' := by
  have H1 := Lib.hid h1
  have H2 := Lib.hid h2
  have H3 := Lib.hid h3
  have H4 := Lib.hid h4
  clear h1 h2 h3 h4
  have e1 : (xi == xi) = true := by simp
  have e2 : (xm == xm) = true := by simp
  have e3 : (xf == xf) = true := by simp
  have e4 : (xu == xu) = true := by simp
  go_enter Tryd.func32, Tryd.ntmps32
  go_upto_region 1 with fail
  obtain ⟨W, hW⟩ : ∃ W : World, W = (w.alloc (.cells #[.int .i64 xi, .int .i64 xm, .int .i64 tk, .string tn, .int .i64 ti, .slice a1 ta.length c1, .int .i64 xf, .int .i64 xu, .int .i64 0, .int .i64 0, .slice none 0 0, .slice none 0 0, .slice none 0 0, .slice a2 xl.length c2] 43)).alloc (.cells #[.int .i64 xi, .int .i64 xm, .int .i64 tk, .string tn, .int .i64 ti, .slice b1 ta.length k1, .int .i64 xf, .int .i64 xu, .int .i64 0, .int .i64 0, .slice none 0 0, .slice none 0 0, .slice none 0 0, .slice b2 xl.length k2] 43) := ⟨_, rfl⟩
  have hK : Kept [] w W := by rw [hW]; exact ((Kept.refl [] w).alloc _).alloc _
  obtain ⟨X, hX⟩ : ∃ X, X = w.heap.size := ⟨_, rfl⟩
  obtain ⟨Y, hY⟩ : ∃ Y, Y = w.heap.size + 1 := ⟨_, rfl⟩
  have HX : Hid (Blk W X [.int .i64 xi, .int .i64 xm, .int .i64 tk, .string tn, .int .i64 ti, .slice a1 ta.length c1, .int .i64 xf, .int .i64 xu, .int .i64 0, .int .i64 0, .slice none 0 0, .slice none 0 0, .slice none 0 0, .slice a2 xl.length c2] 43) := by rw [hW, hX]; exact Blk.old w _ _ _
  have HY : Hid (Blk W Y [.int .i64 xi, .int .i64 xm, .int .i64 tk, .string tn, .int .i64 ti, .slice b1 ta.length k1, .int .i64 xf, .int .i64 xu, .int .i64 0, .int .i64 0, .slice none 0 0, .slice none 0 0, .slice none 0 0, .slice b2 xl.length k2] 43) := by rw [hW, hY]; exact halloc_new _ _ _ (by simp)
  rw [← hW, ← hY, ← hX]
  have HK := Lib.hid hK
  obtain ⟨x0, x1, x2, x3, x4, x5, x6, x7, x8, x9, x10, x11, x12, x13⟩ := HX.out.fourteen
  obtain ⟨y0, y1, y2, y3, y4, y5, y6, y7, y8, y9, y10, y11, y12, y13⟩ := HY.out.fourteen
  clear hW hX hY hK
  go_wp2_with (first
    | (go_at_call 14; refine Calls.mono (termEqual d (S := S) (S' := S') tk tk tn tn ti ti ta ta (.slice a1 ta.length c1) (.slice b1 ta.length k1) _ (by exact (TR.good d).kept H1.out HK.out (by simp)) (by exact (TR.good d).kept H3.out HK.out (by simp))) ?_; rintro e w1 ⟨r, rfl, hr, hk1⟩; have hrt : r = true := hr.2 rfl; subst hrt; have HK1 := Lib.hid (HK.out.trans hk1); have HX1 := Lib.hid (HX.out.kept hk1 (by simp)); have HY1 := Lib.hid (HY.out.kept hk1 (by simp)); clear hr hk1; obtain ⟨p0, p1, p2, p3, p4, p5, p6, p7, p8, p9, p10, p11, p12, p13⟩ := HX1.out.fourteen; obtain ⟨q0, q1, q2, q3, q4, q5, q6, q7, q8, q9, q10, q11, q12, q13⟩ := HY1.out.fourteen)
    | (go_at_call 48; refine Calls.mono (codeEqual_nil _) ?_; rintro e w2 ⟨rfl, hk2⟩; have HK2 := Lib.hid (HK1.out.trans hk2); have HX2 := Lib.hid (HX1.out.kept hk2 (by simp)); have HY2 := Lib.hid (HY1.out.kept hk2 (by simp)); clear hk2; obtain ⟨s0, s1, s2, s3, s4, s5, s6, s7, s8, s9, s10, s11, s12, s13⟩ := HX2.out.fourteen; obtain ⟨t0, t1, t2, t3, t4, t5, t6, t7, t8, t9, t10, t11, t12, t13⟩ := HY2.out.fourteen)
    | (go_at_call 49; refine Calls.mono (eqDeps_nil _) ?_; rintro e w3 ⟨rfl, hk3⟩; have HK3 := Lib.hid (HK2.out.trans hk3); have HX3 := Lib.hid (HX2.out.kept hk3 (by simp)); have HY3 := Lib.hid (HY2.out.kept hk3 (by simp)); clear hk3; obtain ⟨u0, u1, u2, u3, u4, u5, u6, u7, u8, u9, u10, u11, u12, u13⟩ := HX3.out.fourteen; obtain ⟨v0, v1, v2, v3, v4, v5, v6, v7, v8, v9, v10, v11, v12, v13⟩ := HY3.out.fourteen)
    | (go_at_call 50; refine Calls.mono (eqInts (.slice a2 xl.length c2) (.slice b2 xl.length k2) xl _ (by exact H2.out.kept HK3.out (by simp)) (by exact H4.out.kept HK3.out (by simp))) ?_; rintro e w4 ⟨rfl, hk4⟩; have HK4 := Lib.hid (HK3.out.trans hk4); clear hk4))
  go_ret
  exact ⟨rfl, HK4.out⟩

set_option maxRecDepth 100000 in
set_option maxHeartbeats 6400000 in
theorem eqCompiledList (d : Nat) {S S' : Nat → Prop} (v v' : Value) (l : List Cp) (w : World) (h : Rd (fun S w e (x : Cp) => CR d S w e x) Cp.row 14 S w v l) (h' : Rd (fun S w e (x : Cp) => CR d S w e x) Cp.row 14 S' w v' l) :
    Calls Tryd.prog 38 #[v, v'] w fun e w' => e = .returned (.bool true) ∧ Kept [] w w' := by
  obtain ⟨a1, c1, rfl, h1, h2, h3⟩ := h.form
  obtain ⟨a2, c2, rfl, g1, g2, g3⟩ := h'.form
  have hn : ((l.length : Int) != (l.length : Int)) = false := by simp
  have H3 := Lib.hid h3
  have G3 := Lib.hid g3
  clear h3 g3 h h'
  go_enter Tryd.func38, Tryd.ntmps38
  go_wp2
  go_loopw [5] (fun i wr => ∃ k : Nat, k ≤ l.length ∧ i = .int .i64 k ∧ Kept [] w wr) (fun i _ => l.length - (intOf i).toNat)
  case atStart => exact ⟨0, Nat.zero_le _, rfl, Kept.refl _ _⟩
  case round =>
    obtain ⟨k, hk, rfl, hkr⟩ := hrel
    by_cases hlt : k < l.length
    · have hne : l ≠ [] := by rintro rfl; simp at hlt
      obtain ⟨b1, o1, rfl, _, hb1, hc1⟩ := H3.out.resolve_left hne
      obtain ⟨b2, o2, rfl, _, hb2, hc2⟩ := G3.out.resolve_left hne
      obtain ⟨x, hx⟩ := getp l k hlt
      obtain ⟨q, hq1, _, hq2⟩ := hc1 k x hx
      obtain ⟨q', hq3, _, hq4⟩ := hc2 k x hx
      obtain ⟨a1, c1', a2, c2', rfl, z1, z2, z3⟩ := hq2.pair
      obtain ⟨e1, k1, e2, k2, rfl, y1, y2, y3⟩ := hq4.pair
      have HM1 := Lib.hid (hkr.range hq1 (by simp))
      have HM2 := Lib.hid (hkr.range hq3 (by simp))
      have HZ1 := Lib.hid ((TR.good d).kept z1 hkr (by simp))
      have HZ2 := Lib.hid (z2.kept hkr (by simp))
      have HY1 := Lib.hid ((TR.good d).kept y1 hkr (by simp))
      have HY2 := Lib.hid (y2.kept hkr (by simp))
      obtain ⟨xi, xm, ⟨tk, tn, ti, ta⟩, xf, xu, xl⟩ := x
      simp only [Cp.row, vfst_pair, vsnd_pair, Ty.kind, Ty.name, Ty.index, Ty.args] at HM1 HM2 HZ1 HZ2 HY1 HY2
      have hlt' : (k : Int) < l.length := by omega
      have hkc1 : k < c1 := by omega
      have hkc2 : k < c2 := by omega
      obtain ⟨wo, hwo⟩ : ∃ wo : World, wo = wr := ⟨_, rfl⟩
      subst hwo
      have hb1' : b1 < wo.heap.size := Nat.lt_of_lt_of_le hb1 hkr.size
      have hb2' : b2 < wo.heap.size := Nat.lt_of_lt_of_le hb2 hkr.size
      have HKF : Hid (∀ w', Kept [] wo w' → w'.cell? ⟨b1, o1 + k * 14, none⟩ = some (.int .i64 xi) ∧ w'.cell? ⟨b1, o1 + k * 14 + 1, none⟩ = some (.int .i64 xm) ∧ w'.cell? ⟨b1, o1 + k * 14 + 2, none⟩ = some (.int .i64 tk) ∧ w'.cell? ⟨b1, o1 + k * 14 + 3, none⟩ = some (.string tn) ∧ w'.cell? ⟨b1, o1 + k * 14 + 4, none⟩ = some (.int .i64 ti) ∧ w'.cell? ⟨b1, o1 + k * 14 + 5, none⟩ = some (.slice a1 ta.length c1') ∧ w'.cell? ⟨b1, o1 + k * 14 + 6, none⟩ = some (.int .i64 xf) ∧ w'.cell? ⟨b1, o1 + k * 14 + 7, none⟩ = some (.int .i64 xu) ∧ w'.cell? ⟨b1, o1 + k * 14 + 8, none⟩ = some (.int .i64 0) ∧ w'.cell? ⟨b1, o1 + k * 14 + 9, none⟩ = some (.int .i64 0) ∧ w'.cell? ⟨b1, o1 + k * 14 + 10, none⟩ = some (.slice none 0 0) ∧ w'.cell? ⟨b1, o1 + k * 14 + 11, none⟩ = some (.slice none 0 0) ∧ w'.cell? ⟨b1, o1 + k * 14 + 12, none⟩ = some (.slice none 0 0) ∧ w'.cell? ⟨b1, o1 + k * 14 + 13, none⟩ = some (.slice a2 xl.length c2') ∧ w'.cell? ⟨b2, o2 + k * 14, none⟩ = some (.int .i64 xi) ∧ w'.cell? ⟨b2, o2 + k * 14 + 1, none⟩ = some (.int .i64 xm) ∧ w'.cell? ⟨b2, o2 + k * 14 + 2, none⟩ = some (.int .i64 tk) ∧ w'.cell? ⟨b2, o2 + k * 14 + 3, none⟩ = some (.string tn) ∧ w'.cell? ⟨b2, o2 + k * 14 + 4, none⟩ = some (.int .i64 ti) ∧ w'.cell? ⟨b2, o2 + k * 14 + 5, none⟩ = some (.slice e1 ta.length k1) ∧ w'.cell? ⟨b2, o2 + k * 14 + 6, none⟩ = some (.int .i64 xf) ∧ w'.cell? ⟨b2, o2 + k * 14 + 7, none⟩ = some (.int .i64 xu) ∧ w'.cell? ⟨b2, o2 + k * 14 + 8, none⟩ = some (.int .i64 0) ∧ w'.cell? ⟨b2, o2 + k * 14 + 9, none⟩ = some (.int .i64 0) ∧ w'.cell? ⟨b2, o2 + k * 14 + 10, none⟩ = some (.slice none 0 0) ∧ w'.cell? ⟨b2, o2 + k * 14 + 11, none⟩ = some (.slice none 0 0) ∧ w'.cell? ⟨b2, o2 + k * 14 + 12, none⟩ = some (.slice none 0 0) ∧ w'.cell? ⟨b2, o2 + k * 14 + 13, none⟩ = some (.slice e2 xl.length k2)) := Lib.hid (fun w' hk =>
        have p1 := hk.range HM1.out (by simp)
        have p2 := hk.range HM2.out (by simp)
        ⟨p1 0 _ rfl, p1 1 _ rfl, p1 2 _ rfl, p1 3 _ rfl, p1 4 _ rfl, p1 5 _ rfl, p1 6 _ rfl, p1 7 _ rfl, p1 8 _ rfl, p1 9 _ rfl, p1 10 _ rfl, p1 11 _ rfl, p1 12 _ rfl, p1 13 _ rfl, p2 0 _ rfl, p2 1 _ rfl, p2 2 _ rfl, p2 3 _ rfl, p2 4 _ rfl, p2 5 _ rfl, p2 6 _ rfl, p2 7 _ rfl, p2 8 _ rfl, p2 9 _ rfl, p2 10 _ rfl, p2 11 _ rfl, p2 12 _ rfl, p2 13 _ rfl⟩)
      have HEC : Hid (∀ W, Kept [] wo W → Calls Tryd.prog 32 #[.agg #[.int .i64 xi, .int .i64 xm, .int .i64 tk, .string tn, .int .i64 ti, .slice a1 ta.length c1', .int .i64 xf, .int .i64 xu, .int .i64 0, .int .i64 0, .slice none 0 0, .slice none 0 0, .slice none 0 0, .slice a2 xl.length c2'],
          .agg #[.int .i64 xi, .int .i64 xm, .int .i64 tk, .string tn, .int .i64 ti, .slice e1 ta.length k1, .int .i64 xf, .int .i64 xu, .int .i64 0, .int .i64 0, .slice none 0 0, .slice none 0 0, .slice none 0 0, .slice e2 xl.length k2]] W fun q w' => q = .returned (.bool true) ∧ Kept [] wo w') := Lib.hid (fun W hW => by
        refine (eqCompiled d xi xm tk tn ti xf xu ta xl a1 a2 e1 e2 c1' c2' k1 k2 W ((TR.good d).kept HZ1.out hW (by simp)) (HZ2.out.kept hW (by simp)) ((TR.good d).kept HY1.out hW (by simp)) (HY2.out.kept hW (by simp))).mono ?_
        rintro q w' ⟨rfl, hk⟩
        exact ⟨rfl, hW.trans hk⟩)
      clear hx hc1 hc2 hne H3 G3 hq1 hq3 z1 z2 y1 y2
      go_upto_region 6 with (fail)
      go_region_held3 (fun w' => w'.cell? ⟨b1, o1 + k * 14, none⟩ = some (.int .i64 xi) ∧ w'.cell? ⟨b1, o1 + k * 14 + 1, none⟩ = some (.int .i64 xm) ∧ w'.cell? ⟨b1, o1 + k * 14 + 2, none⟩ = some (.int .i64 tk) ∧ w'.cell? ⟨b1, o1 + k * 14 + 3, none⟩ = some (.string tn) ∧ w'.cell? ⟨b1, o1 + k * 14 + 4, none⟩ = some (.int .i64 ti) ∧ w'.cell? ⟨b1, o1 + k * 14 + 5, none⟩ = some (.slice a1 ta.length c1') ∧ w'.cell? ⟨b1, o1 + k * 14 + 6, none⟩ = some (.int .i64 xf) ∧ w'.cell? ⟨b1, o1 + k * 14 + 7, none⟩ = some (.int .i64 xu) ∧ w'.cell? ⟨b1, o1 + k * 14 + 8, none⟩ = some (.int .i64 0) ∧ w'.cell? ⟨b1, o1 + k * 14 + 9, none⟩ = some (.int .i64 0) ∧ w'.cell? ⟨b1, o1 + k * 14 + 10, none⟩ = some (.slice none 0 0) ∧ w'.cell? ⟨b1, o1 + k * 14 + 11, none⟩ = some (.slice none 0 0) ∧ w'.cell? ⟨b1, o1 + k * 14 + 12, none⟩ = some (.slice none 0 0) ∧ w'.cell? ⟨b1, o1 + k * 14 + 13, none⟩ = some (.slice a2 xl.length c2') ∧ w'.cell? ⟨b2, o2 + k * 14, none⟩ = some (.int .i64 xi) ∧ w'.cell? ⟨b2, o2 + k * 14 + 1, none⟩ = some (.int .i64 xm) ∧ w'.cell? ⟨b2, o2 + k * 14 + 2, none⟩ = some (.int .i64 tk) ∧ w'.cell? ⟨b2, o2 + k * 14 + 3, none⟩ = some (.string tn) ∧ w'.cell? ⟨b2, o2 + k * 14 + 4, none⟩ = some (.int .i64 ti) ∧ w'.cell? ⟨b2, o2 + k * 14 + 5, none⟩ = some (.slice e1 ta.length k1) ∧ w'.cell? ⟨b2, o2 + k * 14 + 6, none⟩ = some (.int .i64 xf) ∧ w'.cell? ⟨b2, o2 + k * 14 + 7, none⟩ = some (.int .i64 xu) ∧ w'.cell? ⟨b2, o2 + k * 14 + 8, none⟩ = some (.int .i64 0) ∧ w'.cell? ⟨b2, o2 + k * 14 + 9, none⟩ = some (.int .i64 0) ∧ w'.cell? ⟨b2, o2 + k * 14 + 10, none⟩ = some (.slice none 0 0) ∧ w'.cell? ⟨b2, o2 + k * 14 + 11, none⟩ = some (.slice none 0 0) ∧ w'.cell? ⟨b2, o2 + k * 14 + 12, none⟩ = some (.slice none 0 0) ∧ w'.cell? ⟨b2, o2 + k * 14 + 13, none⟩ = some (.slice e2 xl.length k2))
        (first | with_reducible exact HKF.out _ hk9 | with_reducible exact HKF.out _ ((Kept.refl [] wo).drew))
        (first | (go_at_call 32; (refine Calls.mono (HEC.out _ (by first | exact hk9 | exact (Kept.refl [] wo).drew)) ?_; rintro q w3 ⟨rfl, hk9⟩)))
      all_goals go_wp2
      all_goals
        go_roundw
        case rel => exact ⟨k + 1, by omega, by go_num, hkr.trans hk9⟩
        case measure => simp [intOf]; omega
    · go_wp2
      go_ret
      exact ⟨rfl, hkr⟩
end Go.Proofs.YtkldomkooleecaaDoor
