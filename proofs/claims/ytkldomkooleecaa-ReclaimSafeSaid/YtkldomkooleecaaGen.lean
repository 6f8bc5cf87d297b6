/- Generated codes. -/
import Derived.Test.YtkldomkooleecaaTape
namespace Go.Proofs.Ytkldomkooleecaa
open Go.RowKit

/-- A generated code. -/
def mkc (i m f u : Int) : Cc := ⟨i, m, .int .i64 3, .string ⟨#[]⟩, .int .i64 0, .slice none 0 0, f, u, .int .i64 0, .int .i64 0, .slice none 0 0, .slice none 0 0, .slice none 0 0, .slice none 0 0⟩
def Gen (cs : List Cc) : Prop := ∀ (k : Nat) (x : Cc), cs[k]? = some x → ∃ m f u, x = mkc (k + 1) m f u ∧ 1 ≤ m ∧ m ≤ 3 ∧ 1 ≤ f ∧ f ≤ 6 ∧ (u = 0 ∨ (f < u ∧ u ≤ f + 4))
theorem Gen.snoc {cs : List Cc} (h : Gen cs) {m f u : Int} (h1 : 1 ≤ m) (h2 : m ≤ 3) (h3 : 1 ≤ f) (h4 : f ≤ 6) (h5 : u = 0 ∨ (f < u ∧ u ≤ f + 4)) : Gen (cs ++ [mkc (cs.length + 1) m f u]) := by
  intro k x hk
  rcases Nat.lt_or_ge k cs.length with hl | hl
  · rw [List.getElem?_append_left hl] at hk
    exact h k x hk
  · rw [List.getElem?_append_right hl] at hk
    rcases Nat.eq_or_lt_of_le hl with e | e
    · rw [← e, Nat.sub_self] at hk
      simp at hk
      exact ⟨m, f, u, by rw [← e]; exact hk.symm, h1, h2, h3, h4, h5⟩
    · rw [List.getElem?_eq_none (by simp; omega)] at hk
      cases hk

theorem info_code' : ∃ i z, Try.prog.info? 65 = some i ∧ i.zero = some z ∧ i.size = 14 ∧ i.bytes = 200 ∧ z.cells.size = 14 := by
  have h : (Try.prog.info? 65).map (fun i => (i.zero, i.size, i.bytes)) = some (some (.agg #[.int .i64 0, .int .i64 0, .int .i64 0, .string ⟨#[]⟩, .int .i64 0, .slice none 0 0, .int .i64 0, .int .i64 0, .int .i64 0, .int .i64 0, .slice none 0 0, .slice none 0 0, .slice none 0 0, .slice none 0 0]), 14, 200) := by kernel_rfl
  cases hi : Try.prog.info? 65 with
  | none => simp [hi] at h
  | some i => simp [hi] at h; exact ⟨i, _, rfl, h.1, h.2.1, h.2.2, rfl⟩
theorem info_frame' : ∃ i z, Try.prog.info? 43 = some i ∧ i.zero = some z ∧ i.size = 5 ∧ i.bytes = 56 ∧ z.cells.size = 5 := by
  have h : (Try.prog.info? 43).map (fun i => (i.zero, i.size, i.bytes)) = some (some (.agg #[.int .i64 0, .int .i64 0, .int .i64 0, .int .i64 0, .slice none 0 0]), 5, 56) := by kernel_rfl
  cases hi : Try.prog.info? 43 with
  | none => simp [hi] at h
  | some i => simp [hi] at h; exact ⟨i, _, rfl, h.1, h.2.1, h.2.2, rfl⟩
theorem info_slice : ∃ i z, Try.prog.info? 25 = some i ∧ i.zero = some z ∧ i.size = 1 ∧ i.bytes = 24 ∧ z.cells.size = 1 := by
  have h : (Try.prog.info? 25).map (fun i => (i.zero, i.size, i.bytes)) = some (some (.slice none 0 0), 1, 24) := by kernel_rfl
  cases hi : Try.prog.info? 25 with
  | none => simp [hi] at h
  | some i => simp [hi] at h; exact ⟨i, _, rfl, h.1, h.2.1, h.2.2, rfl⟩

set_option maxRecDepth 100000 in
set_option maxHeartbeats 3200000 in
theorem codes (b m n : Nat) (w : World) (hT : Tp w b m) (hm : m + 4 * n ≤ 100000) :
    Calls Try.prog 9 #[.pointer (some ⟨b, 0, none⟩), .int .i64 n] w fun e w' => ∃ v' cs, e = .returned v' ∧ cs.length = n ∧ Gen cs ∧ Own w' w.heap.size 65 14 v' (crows cs) ∧ Tp w' b (m + 4 * n) ∧ Kept [b] w w' := by
  have hbl := hT.lt
  go_enter Try.func9, Try.ntmps9
  go_wp2
  go_loopw [5, 6] (fun v i wr => ∃ (j : Nat) (cs : List Cc), j ≤ n ∧ i = .int .i64 (j + 1) ∧ cs.length = j ∧ Gen cs ∧ Hid (Own wr w.heap.size 65 14 v (crows cs)) ∧ Tp wr b (m + 4 * j) ∧ Kept [b] w wr) (fun _ i _ => n + 1 - (intOf i).toNat)
  case atStart => exact ⟨0, [], Nat.zero_le _, rfl, rfl, fun k x hk => by simp at hk, Own.nil _ _ _ _, hT, Kept.refl _ _⟩
  case round =>
    obtain ⟨j, cs, hj, rfl, hcl, hg, hown, hT, hk⟩ := hrel
    by_cases hlt : j < n
    · obtain ⟨wo, hwo⟩ : ∃ wo : World, wo = wr := ⟨_, rfl⟩
      subst hwo
      have hq := Kept.refl [b] wo
      obtain ⟨i0, z0, hi, hz0, hz1, hz2, hz3⟩ := info_code'
      go_wp2_with (first
        | (go_at_call_of 26 (Value.int IntKind.i64 3); refine Calls.mono (tapeNext b _ _ _ (by exact hT) (by omega) (by omega)) ?_; rintro e w3 ⟨p3, rfl, hp3, _, hp3', hT, hk3⟩; have hp3' := hp3' (by omega); have hk := hk.trans hk3; have hq := hq.trans hk3)
        | (go_at_call_of 26 (Value.int IntKind.i64 6); refine Calls.mono (tapeNext b _ _ _ (by exact hT) (by omega) (by omega)) ?_; rintro e w3 ⟨p6, rfl, hp6, _, hp6', hT, hk3⟩; have hp6' := hp6' (by omega); have hk := hk.trans hk3; have hq := hq.trans hk3)
        | (go_at_call_of 26 (Value.int IntKind.i64 3); refine Calls.mono (tapeNext b _ _ _ (by exact hT.kept ((Kept.refl [] w3).alloc _) (by simp)) (by omega) (by omega)) ?_; rintro e w4 ⟨p4, rfl, hp4, _, hp4', hT, hk4⟩; have hsz := hk.size; have hsq := hq.size; have hp4' := hp4' (by omega); have hk := (hk.alloc (.cells (mkc (j + 1) (1 + p3) (1 + p6) 0).cells.toArray 65)).trans hk4; have hbk := (Blk.new w3 (mkc (j + 1) (1 + p3) (1 + p6) 0).cells 65).kept hk4 (by simp; omega); have hsz5 : w.heap.size ≤ w4.heap.size := hk.size; have hq := (hq.alloc (.cells (mkc (j + 1) (1 + p3) (1 + p6) 0).cells.toArray 65)).trans hk4; have HOWN := Lib.hid (hown.out.kept hq (fun x hx => by have := (hown.out.lt x hx).1; simp; omega)))
        | (refine wpList_load_mid rfl 65 (.tmp 7) rfl w3.heap.size 0 rfl (mkc (j + 1) (1 + p3) (1 + p6) 0).cells _ hbk.range Try.underlying65 rfl (by kernel_rfl) ?_)
        | (refine wpList_append1 (.tmp 32) (.tmp 33) 24 65 rfl rfl rfl rfl rfl i0 z0 14 200 Try.underlying24 hi hz0 hz1 hz2 hz3 (by decide) (by decide) w.heap.size _ _ (fun _ => rfl) (fun _ => rfl) (mkc (j + 1) (1 + p3) (1 + p6) 0).cells rfl rfl (by simp [mkc, Cc.cells, Value.oneCell']) HOWN.out (by simp; omega) (by simp; omega) (by omega) ?_; intro v5 w5 ho5 hk5 hl5; clear hl5; have HO5 := Lib.hid ho5; have HK5 := Lib.hid hk5; clear ho5 hk5))
      · have e6 := hbk.cell 6 (.int .i64 (1 + p6)) rfl
        go_region_with (go_at_call_of 26 (Value.int IntKind.i64 4); refine Calls.mono (tapeNext b _ _ _ (by exact hT.kept ((Kept.refl [] w4).drew) (by simp)) (by omega) (by omega)) ?_; rintro e w5 ⟨p5, rfl, hp5, _, hp5', hT, hk5⟩; have hp5' := hp5' (by omega); have hk5 : Kept [b] w4 w5 := (Kept.refl [b] w4).drew.trans hk5; have hbk := hbk.kept hk5 (by simp; omega); have hk := hk.trans hk5; have HOWN := Lib.hid (HOWN.out.kept hk5 (fun x hx => by have := (HOWN.out.lt x hx).1; simp; omega)); have e6 := hbk.cell 6 (.int .i64 (1 + p6)) rfl; have e7 := hbk.cell 7 (.int .i64 0) rfl; have f7 := hbk.frozen 7)
        all_goals
          have ew1 : IntKind.i64.wrap (1 + p6 + 1) = 1 + p6 + 1 := IntWalk.i64_in _ (by omega)
          have ew2 : IntKind.i64.wrap (1 + p6 + 1 + p5) = 1 + p6 + 1 + p5 := IntWalk.i64_in _ (by omega)
          rw [ew1, ew2]
          have hbk : Blk _ _ (mkc (j + 1) (1 + p3) (1 + p6) (1 + p6 + 1 + p5)).cells _ := hbk.set 7 (.int .i64 (1 + p6 + 1 + p5))
          have hT := hT.kept ((Kept.refl [w3.heap.size] w5).setCell (p := ⟨w3.heap.size, 7, none⟩) (by simp) (.int .i64 (1 + p6 + 1 + p5))) (by simp; omega)
          have HOWN := Lib.hid (HOWN.out.kept ((Kept.refl [w3.heap.size] w5).setCell (p := ⟨w3.heap.size, 7, none⟩) (by simp) (.int .i64 (1 + p6 + 1 + p5))) (fun x hx => by have := (hown.out.lt x hx).2; simp; omega))
          have hsz6 := hk.size
          have hk := hk.setCell (p := ⟨w3.heap.size, 7, none⟩) (by simp; omega) (.int .i64 (1 + p6 + 1 + p5))
          go_wp2_with (first
          | (refine wpList_load_mid rfl 65 (.tmp 7) rfl w3.heap.size 0 rfl (mkc (j + 1) (1 + p3) (1 + p6) (1 + p6 + 1 + p5)).cells _ hbk.range Try.underlying65 rfl (by kernel_rfl) ?_)
          | (refine wpList_append1 (.tmp 32) (.tmp 33) 24 65 rfl rfl rfl rfl rfl i0 z0 14 200 Try.underlying24 hi hz0 hz1 hz2 hz3 (by decide) (by decide) w.heap.size _ _ (fun _ => rfl) (fun _ => rfl) (mkc (j + 1) (1 + p3) (1 + p6) (1 + p6 + 1 + p5)).cells rfl rfl (by simp [mkc, Cc.cells, Value.oneCell']) HOWN.out (by simp; omega) (by simp; omega) (by simp; omega) ?_; intro v5 w6 ho5 hk5 hl5; clear hl5; have HO5 := Lib.hid ho5; have HK5 := Lib.hid hk5; clear ho5 hk5))
          go_roundw
          case rel =>
            have hkk := HK5.out (u5.ownBlock.toList) (by intro y hy; simp [hy])
            have hlo := HOWN.out.lt
            refine ⟨j + 1, cs ++ [mkc (j + 1) (1 + p3) (1 + p6) (1 + p6 + 1 + p5)], by omega, by go_num, by simp [hcl], ?_, ?_, ?_, ?_⟩
            · have := hg.snoc (m := 1 + p3) (f := 1 + p6) (u := 1 + p6 + 1 + p5) (by omega) (by omega) (by omega) (by omega) (by omega)
              rw [hcl] at this
              exact this
            · rw [Hid, crows, List.map_append]
              exact HO5.out
            · exact (hT.kept hkk (fun x hx => by have := (hlo x (by simpa using hx)).1; omega)).more (by omega)
            · exact hk.trans' hkk (fun x hx => .inr (hlo x (by simpa using hx)).1)
          case measure => simp [intOf]; omega
      · go_roundw
        case rel =>
          have hkk := HK5.out (u5.ownBlock.toList) (by intro y hy; simp [hy])
          have hlo := HOWN.out.lt
          refine ⟨j + 1, cs ++ [mkc (j + 1) (1 + p3) (1 + p6) 0], by omega, by go_num, by simp [hcl], ?_, ?_, ?_, ?_⟩
          · have := hg.snoc (m := 1 + p3) (f := 1 + p6) (u := 0) (by omega) (by omega) (by omega) (by omega) (by omega)
            rw [hcl] at this
            exact this
          · rw [Hid, crows, List.map_append]
            exact HO5.out
          · exact (hT.kept hkk (fun x hx => by have := (hlo x (by simpa using hx)).1; omega)).more (by omega)
          · exact hk.trans' hkk (fun x hx => .inr (hlo x (by simpa using hx)).1)
        case measure => simp [intOf]; omega
    · go_wp2
      go_ret
      have hjn : j = n := by omega
      subst hjn
      exact ⟨_, cs, rfl, hcl, hg, hown.out, hT, hk⟩
end Go.Proofs.Ytkldomkooleecaa
