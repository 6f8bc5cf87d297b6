/- Walks: ValidIn and Unreachable of the reference. -/
import Derived.Test.YtkldomkooleecaaWalkE
import Derived.Deep.RegionWith
namespace Go.Proofs.Ytkldomkooleecaa
open Go.RowKit

def validB (frm unt w : Int) : Bool := decide (frm ≤ w) && ((unt == 0) || decide (w < unt))

set_option maxRecDepth 100000 in
set_option maxHeartbeats 1600000 in
theorem validIn (xi xm : Int) (k0 k1 k2 k3 : Value) (xf xu : Int) (d0 d1 d2 d3 xd xl : Value) (n : Int) (w : World) :
    Calls Try.prog 43 #[.agg #[.int .i64 xi, .int .i64 xm, k0, k1, k2, k3, .int .i64 xf, .int .i64 xu, d0, d1, d2, d3, xd, xl], .int .i64 n] w fun e w' => e = .returned (.bool (validB xf xu n)) ∧ Kept [] w w' := by
  by_cases h1 : xf ≤ n
  · by_cases h2 : xu = 0
    · have h2' : (xu == 0) = true := by simpa using h2
      have HV := Lib.hid (show validB xf xu n = true by simp [validB, h1, h2'])
      clear h2
      go_enter Try.func43, Try.ntmps43
      go_wp2
      go_ret
      rw [HV.out]
      exact ⟨rfl, (Kept.refl _ _).alloc _⟩
    · have h2' : (xu == 0) = false := by simpa using h2
      by_cases h3 : n < xu
      · have HV := Lib.hid (show validB xf xu n = true by simp [validB, h1, h3])
        clear h2
        go_enter Try.func43, Try.ntmps43
        go_wp2
        go_ret
        rw [HV.out]
        exact ⟨rfl, (Kept.refl _ _).alloc _⟩
      · have h3' : decide (n < xu) = false := by simpa using h3
        have HV := Lib.hid (show validB xf xu n = false by simp [validB, h2', h3'])
        clear h2
        go_enter Try.func43, Try.ntmps43
        go_wp2
        go_ret
        rw [HV.out]
        exact ⟨rfl, (Kept.refl _ _).alloc _⟩
  · have h1' : decide (xf ≤ n) = false := by simpa using h1
    have HV := Lib.hid (show validB xf xu n = false by simp [validB, h1'])
    go_enter Try.func43, Try.ntmps43
    go_wp2
    go_ret
    rw [HV.out]
    exact ⟨rfl, (Kept.refl _ _).alloc _⟩

/-- What the reference keeps: a code is used. -/
theorem used_eq (act ws : List Int) (x : Cc) : (((x.unt == 0) || decide (x.id ∈ act)) || ws.any (validB x.frm x.unt)) = !freeB act ws x := by
  unfold freeB outOf validB
  by_cases hz : x.unt = 0
  · simp [hz]
  · have hz' : (x.unt == 0) = false := by simpa using hz
    have e : (ws.any fun w => decide (x.frm ≤ w) && ((x.unt == 0) || decide (w < x.unt))) = !(ws.all fun w => decide (w < x.frm) || decide (x.unt ≤ w)) := by
      rw [List.not_all_eq_any_not, hz']
      congr 1
      funext w
      rw [Bool.not_or, Bool.false_or]
      congr 1
      · rw [← decide_not]; congr 1; simp
      · rw [← decide_not]; congr 1; simp
    rw [e, hz']
    simp [hz]
theorem any_snoc (f : Int → Bool) (ws : List Int) (m : Nat) (x : Int) (h : ws[m]? = some x) : (ws.take (m + 1)).any f = ((ws.take m).any f || f x) := by
  rw [List.take_add_one, h]; simp

theorem range14 {w : World} {b : Nat} {a0 a1 a2 a3 a4 a5 a6 a7 a8 a9 a10 a11 a12 a13 : Value} (h : w.rangeAt b 0 [a0, a1, a2, a3, a4, a5, a6, a7, a8, a9, a10, a11, a12, a13]) :
    w.cell? ⟨b, 0, none⟩ = some a0 ∧ w.cell? ⟨b, 1, none⟩ = some a1 ∧ w.cell? ⟨b, 2, none⟩ = some a2 ∧ w.cell? ⟨b, 3, none⟩ = some a3 ∧ w.cell? ⟨b, 4, none⟩ = some a4 ∧ w.cell? ⟨b, 5, none⟩ = some a5 ∧ w.cell? ⟨b, 6, none⟩ = some a6 ∧ w.cell? ⟨b, 7, none⟩ = some a7 ∧ w.cell? ⟨b, 8, none⟩ = some a8 ∧ w.cell? ⟨b, 9, none⟩ = some a9 ∧ w.cell? ⟨b, 10, none⟩ = some a10 ∧ w.cell? ⟨b, 11, none⟩ = some a11 ∧ w.cell? ⟨b, 12, none⟩ = some a12 ∧ w.cell? ⟨b, 13, none⟩ = some a13 := by
  refine ⟨?_, ?_, ?_, ?_, ?_, ?_, ?_, ?_, ?_, ?_, ?_, ?_, ?_, ?_⟩
  · exact h 0 _ rfl
  · exact h 1 _ rfl
  · exact h 2 _ rfl
  · exact h 3 _ rfl
  · exact h 4 _ rfl
  · exact h 5 _ rfl
  · exact h 6 _ rfl
  · exact h 7 _ rfl
  · exact h 8 _ rfl
  · exact h 9 _ rfl
  · exact h 10 _ rfl
  · exact h 11 _ rfl
  · exact h 12 _ rfl
  · exact h 13 _ rfl

set_option maxRecDepth 100000 in
set_option maxHeartbeats 3200000 in
theorem refUnreachable {S S' S'' : Nat → Prop} (v va vw : Value) (cs : List Cc) (act ws : List Int) (w : World) (h : Reads S w v 14 (crows cs)) (ha : Reads S' w va 1 (irows act)) (hw : Reads S'' w vw 1 (irows ws)) (hl : cs.length ≤ 1000000) :
    Calls Try.prog 17 #[v, va, vw] w fun e w' => ∃ v', e = .returned v' ∧ Reads (fun b => w.heap.size ≤ b) w' v' 1 (irows ((freed act ws cs).foldl ins [])) ∧ Kept [] w w' := by
  obtain ⟨a1, c1, rfl, h1, h2, h3⟩ := codes_form h
  have HA := Lib.hid ha
  obtain ⟨a3, c3, rfl, f1, f2, f3⟩ := hw.ints
  have H3 := Lib.hid h3
  have F3 := Lib.hid f3
  have HL := Lib.hid hl
  clear h3 f3 h ha hw hl
  go_enter Try.func17, Try.ntmps17
  go_wp2
  go_loopw [7, 8] (fun v i wr => ∃ j : Nat, j ≤ cs.length ∧ i = .int .i64 j ∧ Kept [] w wr ∧ Hid (Reads (fun b => w.heap.size ≤ b) wr v 1 (irows ((freed act ws (cs.take j)).foldl ins [])))) (fun _ i _ => cs.length - (intOf i).toNat)
  case atStart => exact ⟨0, Nat.zero_le _, rfl, Kept.refl [] w, Reads.nil _ _ _⟩
  case round =>
    obtain ⟨j, hj, rfl, hkr, hrs⟩ := hrel
    by_cases hlt' : j < cs.length
    · have hne : cs ≠ [] := by rintro rfl; simp at hlt'
      obtain ⟨b1, o1, rfl, hSb, hb1, hc1⟩ := H3.out.resolve_left hne
      obtain ⟨x, hx⟩ : ∃ x, cs[j]? = some x := ⟨cs[j], by simp⟩
      obtain ⟨hrx, hox⟩ := hc1 j x hx
      have hrg := Lib.hid (hkr.range hrx (by simp))
      have HX := Lib.hid hx
      obtain ⟨xi, xm, k0, k1, k2, k3, xf, xu, d0, d1, d2, d3, xd, xl⟩ := x
      simp only [Cc.cells] at hrg hox
      have HOX := Lib.hid hox
      clear hrx hx hc1 hne H3 hox
      have HA1 := Lib.hid ((HA.out.kept hkr (by simp)).kept ((Kept.refl [] wr).alloc (.cells #[.int .i64 xi, .int .i64 xm, k0, k1, k2, k3, .int .i64 xf, .int .i64 xu, d0, d1, d2, d3, xd, xl] 65)) (by simp))
      obtain ⟨ub, hub⟩ : ∃ ub, ub = (xu == 0) := ⟨_, rfl⟩
      have HUB := Lib.hid hub
      have hub' := hub.symm
      clear hub
      cases ub
      all_goals go_wp2_with (first
        | (refine wpList_load_mid rfl 65 (.tmp 20) rfl b1 (o1 + j * 14) rfl [.int .i64 xi, .int .i64 xm, k0, k1, k2, k3, .int .i64 xf, .int .i64 xu, d0, d1, d2, d3, xd, xl] _ hrg.out Try.underlying65 rfl (by kernel_rfl) ?_)
        | (refine wpList_allocStore (.tmp 21) 65 rfl rfl rfl rfl rfl rfl _ [.int .i64 xi, .int .i64 xm, k0, k1, k2, k3, .int .i64 xf, .int .i64 xu, d0, d1, d2, d3, xd, xl] info_code rfl (fun _ => rfl) (fun _ => rfl) HOX.out ?_)
        | (go_at_call 42; refine (contains_any _ act xi _ HA1.out).mono ?_; rintro e w' ⟨rfl, rfl⟩))
      all_goals
        obtain ⟨wb, hwb⟩ : ∃ wb, wb = wr.alloc (.cells #[.int .i64 xi, .int .i64 xm, k0, k1, k2, k3, .int .i64 xf, .int .i64 xu, d0, d1, d2, d3, xd, xl] 65) := ⟨_, rfl⟩
        obtain ⟨bx, hbx⟩ : ∃ bx, bx = wr.heap.size := ⟨_, rfl⟩
        have hbr : wb.rangeAt bx 0 [.int .i64 xi, .int .i64 xm, k0, k1, k2, k3, .int .i64 xf, .int .i64 xu, d0, d1, d2, d3, xd, xl] := by
          intro q u hu
          rw [hwb, hbx, Nat.zero_add, World.cell?_alloc_at _ _ _ _ rfl]
          simpa using hu
        have hkb : Kept [] w wb := by rw [hwb]; exact hkr.alloc _
        have hrb : Reads (fun b => w.heap.size ≤ b) wb u7 1 (irows ((freed act ws (cs.take j)).foldl ins [])) := by rw [hwb]; exact hrs.out.kept ((Kept.refl [] _).alloc _) (by simp)
        have HBR := Lib.hid hbr
        have HRB := Lib.hid hrb
        rw [← hwb, ← hbx]
        clear hwb hbx hbr hrb HA1 hrs hkr
        go_loopw [10, 11] (fun f i wi => ∃ (m : Nat) (bb : Bool), m ≤ ws.length ∧ f = .bool bb ∧ i = .int .i64 m ∧ Kept [] wb wi ∧ Hid (bb = (((xu == 0) || decide (xi ∈ act)) || (ws.take m).any (validB xf xu)))) (fun _ i _ => ws.length - (intOf i).toNat)
        case atStart => exact ⟨0, _, Nat.zero_le _, rfl, rfl, Kept.refl _ _, by rw [Hid, ← HUB.out]; simp⟩
        case round =>
          obtain ⟨m, bb, hm, rfl, rfl, hki, hbb⟩ := hrel
          by_cases hlm : m < ws.length
          · have hnw : ws ≠ [] := by rintro rfl; simp at hlm
            obtain ⟨b3, o3, rfl, hSb3, hb3, hc3⟩ := F3.out.resolve_left hnw
            obtain ⟨x, hx⟩ := getx ws m hlm
            have cw := hki.cell' (hkb.cell' (hc3 m x hx) (by simp)) (by simp)
            have HS := Lib.hid (any_snoc (validB xf xu) ws m x hx)
            have hbi := hki.range HBR.out (by simp)
            clear hc3 hx hnw F3
            cases bb
            · obtain ⟨e0, e1, e2, e3, e4, e5, e6, e7, e8, e9, e10, e11, e12, e13⟩ := range14 hbi
              clear hbi
              go_wp2
              go_region_with (go_at_call 43; refine (validIn xi xm k0 k1 k2 k3 xf xu d0 d1 d2 d3 xd xl x _).mono ?_; rintro e w3 ⟨rfl, hk3⟩)
              all_goals go_wp2
              all_goals
                go_roundw
                case rel => exact ⟨m + 1, _, by omega, rfl, by go_num, hki.trans ((Kept.refl [] _).drew.trans hk3), by have h1 := hbb.out; rw [Hid, HS.out, ← Bool.or_assoc, ← h1]; rfl⟩
                case measure => simp [intOf]; omega
            · go_wp2
              go_quiet (fail)
              all_goals go_wp2
              all_goals
                go_roundw
                case rel => exact ⟨m + 1, _, by omega, rfl, by go_num, hki.drewN _, by have h1 := hbb.out; rw [Hid, HS.out, ← Bool.or_assoc, ← h1]; rfl⟩
                case measure => simp [intOf]; omega
          · have hfr : Hid (bb = !freeB act ws ⟨xi, xm, k0, k1, k2, k3, xf, xu, d0, d1, d2, d3, xd, xl⟩) := by
              have h1 := hbb.out
              rw [show m = ws.length by omega, List.take_length] at h1
              exact h1.trans (used_eq act ws ⟨xi, xm, k0, k1, k2, k3, xf, xu, d0, d1, d2, d3, xd, xl⟩)
            have ci := (hki.range HBR.out (by simp)) 0 _ rfl
            simp only [Nat.add_zero] at ci
            have hrs2 := HRB.out.kept hki (by simp)
            have hlen : ((freed act ws (cs.take j)).foldl ins []).length ≤ 1000000 := by
              have h1 := inss_length (freed act ws (cs.take j)) []
              have h2 := freed_length act ws (cs.take j)
              have h3 := HL.out
              rw [List.length_take] at h2
              have h4 : ([] : List Int).length = 0 := rfl
              omega
            have HRS2 := Lib.hid hrs2
            have HLEN := Lib.hid hlen
            clear hbb F3 hrs2 hlen
            cases bb
            · go_wp2_with (go_at_call 40; refine (inserted _ _ _ _ HRS2.out HLEN.out).mono ?_; rintro e w3 ⟨v3, rfl, ho3, hk3⟩; have HO3 := Lib.hid ho3; clear ho3)
              go_roundw
              case rel =>
                refine ⟨j + 1, by omega, by go_num, (hkb.trans hki).trans hk3, ?_⟩
                have e1 : freed act ws (cs.take (j + 1)) = freed act ws (cs.take j) ++ [xi] := by rw [List.take_add_one, HX.out, freed_append]; have := hfr.out; simp at this; simp [freed, this]
                rw [Hid, e1, foldl_snoc]
                exact HO3.out.mono (fun b _ hb => by have := (hkb.trans hki).size; rcases hb with hb | hb <;> omega)
              case measure => simp [intOf]; omega
            · go_wp2
              go_roundw
              case rel =>
                refine ⟨j + 1, by omega, by go_num, hkb.trans hki, ?_⟩
                have e1 : freed act ws (cs.take (j + 1)) = freed act ws (cs.take j) := by rw [List.take_add_one, HX.out, freed_append]; have := hfr.out; simp at this; simp [freed, this]
                rw [Hid, e1]
                exact HRS2.out
              case measure => simp [intOf]; omega
    · go_wp2
      go_ret
      have hfin := hrs.out
      rw [show j = cs.length by omega, List.take_length] at hfin
      exact ⟨_, rfl, hfin, hkr⟩
end Go.Proofs.Ytkldomkooleecaa
