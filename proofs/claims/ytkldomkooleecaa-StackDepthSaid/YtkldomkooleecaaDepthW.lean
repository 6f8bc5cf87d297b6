/- The walk of the law StackDepth. -/
import Derived.Test.YtkldomkooleecaaDepth
import Derived.Deep.RegionHeld3
namespace Go.Proofs.Ytkldomkooleecaa
open Go.RowKit

theorem rep_ok {g : Option Nat} (b : Nat) (l : List Frm) (y : Frm) (c x k : Nat) (C : Array Value) (w : World) (h : Sk 1 (b < ·) w b g (l ++ [y])) (hc : 1 ≤ c) (hx : x ≤ 200) (hC : C = madeCells #[.int .i64 0, .int .i64 0, .string ⟨#[]⟩, .slice none 0 0] (x * 4)) (hk : w.heap[k]? = some (.cells C 50)) :
    Calls Try.prog 32 #[.pointer (some ⟨b, 0, none⟩), .agg #[.int .i64 0, .int .i64 0, .int .i64 1, .int .i64 ((c : Int) - 1), .slice (some ⟨k, 0, none⟩) x x]] w fun e w' => e = .returned (.int .i64 0) ∧
      Sk 1 (b < ·) w' b g (l ++ [⟨0, 0, 1, (c : Int) - 1, List.replicate x zVl⟩]) ∧ Kept g.toList w w' := by
  have hbl := h.lt
  refine (replace_ok 1 b l y ⟨0, 0, 1, (c : Int) - 1, List.replicate x zVl⟩ (.slice (some ⟨k, 0, none⟩) x x) w h ⟨by simp, by simp, by simp; omega, by simp, by simpa using hx⟩ (made_VR (S := fun _ => True) hC trivial (by omega) hk)).mono ?_
  rintro e w' ⟨rfl, hsk, hk⟩
  exact ⟨rfl, hsk.mono (S' := fun y => b < y) (fun z _ hz => by rcases hz with hz | hz; exact hz; omega), hk⟩
theorem rep_bad {g : Option Nat} (b : Nat) (l : List Frm) (y : Frm) (c x k : Nat) (w : World) (h : Sk 1 (b < ·) w b g (l ++ [y])) (hc : 1 ≤ c) (hx : 200 < x) :
    Calls Try.prog 32 #[.pointer (some ⟨b, 0, none⟩), .agg #[.int .i64 0, .int .i64 0, .int .i64 1, .int .i64 ((c : Int) - 1), .slice (some ⟨k, 0, none⟩) x x]] w fun e w' => e = .returned (.int .i64 1) ∧ Kept [] w w' := by
  have := replace_bad 1 b l y ⟨0, 0, 1, (c : Int) - 1, List.replicate x zVl⟩ (some ⟨k, 0, none⟩) x w h (by simp) (by simp) (by simp; omega) (.inr (by simpa using hx))
  simpa using this

set_option maxRecDepth 100000 in
set_option maxHeartbeats 6400000 in
theorem stackDepth (n slots : Int) (w : World) :
    Calls Try.prog 6 #[.int .i64 n, .int .i64 slots] w fun e w' => e = .returned (.bool true) ∧ Kept [] w w' := by
  go_enter Try.func6, Try.ntmps6
  go_wp2_with fail
  refine Calls.mono (newStack 1 _) ?_
  rintro e w1 ⟨rfl, hsk, hk1⟩
  obtain ⟨b, hb⟩ : ∃ b, b = w.heap.size := ⟨_, rfl⟩
  have HSK := Lib.hid (hsk.mono (S' := (b < ·)) (fun _ _ h => h.elim))
  have hbw : w.heap.size ≤ b := by omega
  have hb1 := hsk.lt
  rw [← hb] at HSK hb1 ⊢
  clear hsk hb
  go_wp2_with fail
  refine Calls.mono (within n 0 52 _ (by omega) (by omega) (by omega)) ?_
  rintro e w2 ⟨m', rfl, hm0, hm1, rfl⟩
  obtain ⟨m, rfl⟩ := Int.eq_ofNat_of_zero_le hm0
  clear hm0
  go_wp2_with fail
  go_loopw [7] (fun i wr => ∃ (k : Nat) (l : List Frm) (g : Option Nat), i = .int .i64 k ∧ k ≤ m ∧ (k ≤ 49 → l.length = k) ∧ (49 ≤ k → l.length = 49) ∧ PCs l ∧ Hid (Sk 1 (b < ·) wr b g l) ∧ Kept [] w wr) (fun i _ => m - (intOf i).toNat)
  case atStart => exact ⟨0, [], none, rfl, Nat.zero_le _, fun _ => rfl, fun h => by omega, fun i x hx => by simp at hx, HSK.out, hk1⟩
  case round =>
    clear HSK hk1 hb1
    obtain ⟨k, l, g, rfl, hkm, hl1, hl2, hpc, hsk, hk⟩ := hrel
    have hsz := hk.size
    have hskl := hsk.out.lt
    have HPC := Lib.hid hpc
    clear hpc
    by_cases hlt : k < m
    · by_cases h48 : k ≤ 48
      · have hll : l.length = k := hl1 (by omega)
        have HL := Lib.hid hll
        have hb48 : decide ((k : Int) ≤ 48) = true := by simp; omega
        clear hl1 hl2 hll
        go_wp2_with fail
        refine Calls.mono (push 1 b l ⟨0, 0, 1, k, []⟩ (.slice none 0 0) _ (by exact hsk.out) (by exact ⟨by simp, by simp, by simp, by simp, by simp⟩) (VR.nil 1 (fun _ => True) _) (by exact Nat.lt_irrefl _) (by have := HL.out; omega)) ?_
        rintro e w3 ⟨g3, rfl, hsk3, hk3, hg3⟩
        have HS3 := Lib.hid hsk3
        clear hsk3
        go_wp2_with fail
        go_roundw
        case rel =>
          have hll := HL.out
          have hM : ∀ x ∈ b :: g.toList, b ≤ x := by
            intro x hx
            rcases List.mem_cons.1 hx with rfl | hx
            · exact Nat.le_refl _
            · have := (Sk.own_lt hsk.out x (by simpa using hx)).1; omega
          refine ⟨k + 1, l ++ [⟨0, 0, 1, k, []⟩], g3, by go_num, by omega, fun _ => by simp [hll], fun h => by simp [hll]; omega, HPC.out.snoc (by simp [hll]), Lib.hid (HS3.out.mono (S' := fun y => b < y) (fun y _ h => h.elim id (fun h => by omega))), hk.trans' hk3 (fun x hx => .inr (by have := hM x hx; omega))⟩
        case measure => simp [intOf]; omega
      · have hll : l.length = 49 := hl2 (by omega)
        have HL := Lib.hid hll
        have hb48 : decide ((k : Int) ≤ 48) = false := by simp; omega
        clear hl1 hl2 hll
        go_wp2_with fail
        refine Calls.mono (push_deep 1 b l ⟨0, 0, 1, k, []⟩ none 0 _ (by exact hsk.out) (by exact ⟨by simp, by simp, by simp, by simp, by simp⟩) (by have := HL.out; omega)) ?_
        rintro e w3 ⟨rfl, hk3⟩
        have HS3 := Lib.hid (hsk.out.kept hk3 (by simp) (by simp) (by simp))
        go_wp2_with fail
        go_roundw
        case rel => exact ⟨k + 1, l, g, by go_num, by omega, fun h => by omega, fun _ => HL.out, HPC.out, HS3.out, hk.trans hk3⟩
        case measure => simp [intOf]; omega
    · have hkm' : k = m := by omega
      subst hkm'
      have hlen : l.length = min k 49 := by
        by_cases h : k ≤ 49
        · rw [hl1 h]; omega
        · rw [hl2 (by omega)]; omega
      clear hl1 hl2
      go_wp2_with fail
      refine Calls.mono (stackLen 1 b l _ (by exact hsk.out)) ?_
      rintro e w3 ⟨rfl, hk3⟩
      have hsk3 := Lib.hid (hsk.out.kept hk3 (by simp) (by simp) (by simp))
      have hk3' := hk.trans hk3
      obtain ⟨c, hc⟩ : ∃ c, c = l.length := ⟨_, rfl⟩
      have HC := Lib.hid hc
      have hc1 : (k ≤ 49 ∧ c = k) ∨ (49 < k ∧ c = 49) := by omega
      rw [← hc] at hlen ⊢
      clear hc hsk hk hk3 hskl hsz
      have hmin : (min (k : Int) 49) = (c : Int) := by omega
      clear hlen
      go_wp2_with fail
      refine Calls.mono (within slots 199 201 _ (by omega) (by omega) (by omega)) ?_
      rintro e w4 ⟨x', rfl, hx0, hx1, rfl⟩
      obtain ⟨x, rfl⟩ := Int.eq_ofNat_of_zero_le (show 0 ≤ x' by omega)
      go_upto_region 14 with (fail)
      go_cut [64] from 49 to 64 (fun s64 wx => s64 = .bool false ∧ ∃ l' : List Frm, l'.length = c ∧ PCs l' ∧ Hid (Sk 1 (b < ·) wx b g l') ∧ Kept [] w wx)
      case first =>
        by_cases hk0 : k = 0
        · subst hk0
          go_quiet (fail)
          go_wp2_with fail
          go_meet
          exact ⟨rfl, l, by have := HC.out; omega, HPC.out, hsk3.out.kept ((Kept.refl [] _).drewN _) (by simp) (by simp) (by simp), hk3'.drewN _⟩
        · have hkp : (0 : Int) < k := by omega
          have hkp2 : 0 < k := by omega
          have hkp3 : decide (0 < k) = true := by simpa using hkp2
          have hcw : IntKind.i64.wrap ((c : Int) - 1) = (c : Int) - 1 := IntWalk.i64_in _ (by omega)
          obtain ⟨l', y, hly⟩ := snoc_of l (by have := HC.out; omega)
          subst hly
          have HSK4 := hsk3
          have hcl : (l' ++ [y]).length = c := HC.out.symm
          have HCL := Lib.hid hcl
          obtain ⟨C, hCC⟩ : ∃ C, C = madeCells #[.int .i64 0, .int .i64 0, .string ⟨#[]⟩, .slice none 0 0] (x * 4) := ⟨_, rfl⟩
          have hmk := fun w => made_run x (by omega) w
          rw [← hCC] at hmk
          have HCC := Lib.hid hCC
          clear hCC hcl hk0
          by_cases h200 : x ≤ 200
          · have hb200 : decide ((x : Int) ≤ 200) = true := by simp; omega
            go_region_held3 (fun _ => True) (trivial) (first
            | (go_at_call 31; refine Calls.mono (stackLen 1 b (l' ++ [y]) _ (by exact HSK4.out.kept (M := []) (by repeat (first | exact Kept.refl _ _ | refine Kept.drew ?_ | refine Kept.alloc ?_ _)) (by simp) (by simp) (by simp))) ?_; rintro e w5 ⟨he, hk5⟩; rw [HCL.out] at he; subst he; have hk5' := Kept.trans (a := w4) (by repeat (first | exact Kept.refl _ _ | refine Kept.drew ?_ | refine Kept.alloc ?_ _)) hk5; have HSK5 := Lib.hid (HSK4.out.kept hk5' (by simp) (by simp) (by simp)); have hs5 := hk5.size)
            | (go_at_call 32; ((with_reducible refine Calls.mono (rep_ok b l' y c x w5.heap.size C _ (by exact HSK5.out.kept (M := []) (by repeat (first | exact Kept.refl _ _ | refine Kept.drew ?_ | refine Kept.alloc ?_ _)) (by simp) (by simp) (by simp)) (by omega) (by omega) HCC.out (by exact halloc_new _ _ _ rfl)) ?_); rintro e w6 ⟨rfl, hsk6, hk6⟩; have HSK6 := Lib.hid hsk6; have hk6' := Kept.trans (a := w4) (Kept.nil (Kept.trans hk5' (by repeat (first | exact Kept.refl _ _ | refine Kept.drew ?_ | refine Kept.alloc ?_ _)))) hk6; clear hsk6))
            | (go_at_call 32; ((with_reducible refine Calls.mono (rep_ok b l' y c x w4.heap.size C _ (by exact HSK5.out.kept (M := []) (by repeat (first | exact Kept.refl _ _ | refine Kept.drew ?_ | refine Kept.alloc ?_ _)) (by simp) (by simp) (by simp)) (by omega) (by omega) HCC.out (by exact hk5.get (halloc_new _ _ _ rfl) (by simp))) ?_); rintro e w6 ⟨rfl, hsk6, hk6⟩; have HSK6 := Lib.hid hsk6; have hk6' := Kept.trans (a := w4) (Kept.nil (Kept.trans hk5' (by repeat (first | exact Kept.refl _ _ | refine Kept.drew ?_ | refine Kept.alloc ?_ _)))) hk6; clear hsk6)))
            all_goals go_wp2_with fail
            all_goals
              go_meet
              have hpc := HPC.out.init
              have hll := HCL.out
              simp at hll
              exact ⟨rfl, l' ++ [⟨0, 0, 1, (c : Int) - 1, List.replicate x zVl⟩], by simp [hll], hpc.1.snoc (by simp only; omega), HSK6, hk3'.trans' hk6' (fun z hz => .inr (by have := Sk.own_lt HSK5.out z (by simpa using hz); omega))⟩
          · have hb200 : decide ((x : Int) ≤ 200) = false := by simp; omega
            go_region_held3 (fun _ => True) (trivial) (first
            | (go_at_call 31; refine Calls.mono (stackLen 1 b (l' ++ [y]) _ (by exact HSK4.out.kept (M := []) (by repeat (first | exact Kept.refl _ _ | refine Kept.drew ?_ | refine Kept.alloc ?_ _)) (by simp) (by simp) (by simp))) ?_; rintro e w5 ⟨he, hk5⟩; rw [HCL.out] at he; subst he; have hk5' := Kept.trans (a := w4) (by repeat (first | exact Kept.refl _ _ | refine Kept.drew ?_ | refine Kept.alloc ?_ _)) hk5; have HSK5 := Lib.hid (HSK4.out.kept hk5' (by simp) (by simp) (by simp)); have hs5 := hk5.size)
            | (go_at_call 32; ((with_reducible refine Calls.mono (rep_bad b l' y c x w5.heap.size _ (by exact HSK5.out.kept (M := []) (by repeat (first | exact Kept.refl _ _ | refine Kept.drew ?_ | refine Kept.alloc ?_ _)) (by simp) (by simp) (by simp)) (by omega) (by omega)) ?_); rintro e w6 ⟨rfl, hk6⟩; have hk6' := Kept.trans (a := w5) (by repeat (first | exact Kept.refl _ _ | refine Kept.drew ?_ | refine Kept.alloc ?_ _)) hk6))
            | (go_at_call 32; ((with_reducible refine Calls.mono (rep_bad b l' y c x w4.heap.size _ (by exact HSK5.out.kept (M := []) (by repeat (first | exact Kept.refl _ _ | refine Kept.drew ?_ | refine Kept.alloc ?_ _)) (by simp) (by simp) (by simp)) (by omega) (by omega)) ?_); rintro e w6 ⟨rfl, hk6⟩; have hk6' := Kept.trans (a := w5) (by repeat (first | exact Kept.refl _ _ | refine Kept.drew ?_ | refine Kept.alloc ?_ _)) hk6)))
            all_goals go_wp2_with fail
            all_goals
              go_meet
              exact ⟨rfl, l' ++ [y], HCL.out, HPC.out, HSK5.out.kept hk6' (by simp) (by simp) (by simp), (hk3'.trans hk5').trans hk6'⟩
      case rest =>
        obtain ⟨rfl, l', hl', hpc', hsk', hk'⟩ := hcut
        have hc49 : c ≤ 49 := by omega
        have HL' := Lib.hid hl'
        have HPC' := Lib.hid hpc'
        clear hl' hpc' HPC hsk3 hk3' hmin hc1
        go_wp2_with fail
        refine Calls.mono (stackLen 1 b l' _ (by exact hsk'.out)) ?_
        rintro e w5 ⟨he, hk5⟩
        rw [HL'.out] at he
        subst he
        have HS5 := Lib.hid (hsk'.out.kept hk5 (by simp) (by simp) (by simp))
        have hk5' := hk'.trans hk5
        clear hsk' hk5 hk'
        go_wp2_with fail
        go_loopw [10] (fun i wr => ∃ (k : Nat) (l : List Frm), i = .int .i64 ((k : Int) - 1) ∧ k ≤ 49 ∧ Hid (l.length = k) ∧ Hid (PCs l) ∧ Hid (Sk 1 (b < ·) wr b g l) ∧ Kept [] w wr) (fun i _ => (intOf i + 1).toNat)
        case atStart => exact ⟨c, l', rfl, hc49, HL'.out, HPC'.out, HS5.out, hk5'⟩
        case round =>
          clear HS5 hk5'
          obtain ⟨j, lj, rfl, hj, hlj, hpj, hsj, hkj⟩ := hrel
          obtain ⟨wo, hwo⟩ : ∃ wo : World, wo = wr := ⟨_, rfl⟩
          subst hwo
          rcases j with _ | j
          · have hnil : lj = [] := List.eq_nil_of_length_eq_zero hlj.out
            subst hnil
            go_wp2_with fail
            refine Calls.mono (stackPop_none 1 b _ (by exact hsj.out)) ?_
            rintro e w6 ⟨rfl, hk6⟩
            have HS6 := Lib.hid (hsj.out.kept hk6 (by simp) (by simp) (by simp))
            go_wp2_with fail
            refine Calls.mono (stackLen 1 b [] _ (by exact HS6.out.kept ((Kept.refl [] _).alloc _) (by simp) (by simp) (by simp))) ?_
            rintro e w7 ⟨rfl, hk7⟩
            have hk7' := (hkj.trans hk6).alloc (.cells #[.int .i64 0, .int .i64 0, .int .i64 0, .int .i64 0, .slice none 0 0] 43) |>.trans hk7
            have HS7 := Lib.hid (HS6.out.kept (((Kept.refl [] _).alloc _).trans hk7) (by simp) (by simp) (by simp))
            go_wp2_with fail
            refine Calls.mono (stackRoots 0 b [] _ (by exact HS7.out) (by simp) (by decide)) ?_
            rintro e w8 ⟨v8, rfl, ho8, hk8⟩
            obtain ⟨a8, c8, rfl, _⟩ := ho8.shape
            have hr0 : (rroots ((fobjs 0 []).foldl ins [])).length = 0 := by decide
            rw [hr0]
            clear ho8 hr0
            go_wp2_with fail
            refine Calls.mono (sane34 _) ?_
            rintro e w9 ⟨rfl, hk9⟩
            go_wp2_with fail
            go_ret
            exact ⟨rfl, (hk7'.trans hk8).trans hk9⟩
          · obtain ⟨l2, y, hly⟩ := snoc_of lj (by have := hlj.out; omega)
            subst hly
            obtain ⟨hp2, hyp⟩ := hpj.out.init
            have hl2 : l2.length = j := by have := hlj.out; simp at this; exact this
            obtain ⟨yc, ym, yw, yp, ys⟩ := y
            simp only at hyp
            rw [hl2] at hyp
            subst hyp
            have HL2 := Lib.hid hl2
            have HP2 := Lib.hid hp2
            clear hl2 hp2
            have hjj : ((j + 1 : Nat) : Int) - 1 = j := by omega
            rw [hjj]
            clear hjj
            go_wp2_with fail
            refine Calls.mono (stackPop 1 b l2 ⟨yc, ym, yw, j, ys⟩ _ (by exact hsj.out) (by exact Nat.lt_irrefl _)) ?_
            rintro e w6 ⟨e6, rfl, hv6, hsk6, hk6⟩
            obtain ⟨e6a, e6c, rfl, _⟩ := hv6.form
            have HS6 := Lib.hid (hsk6.kept ((Kept.refl [] w6).alloc (.cells #[.int .i64 yc, .int .i64 ym, .int .i64 yw, .int .i64 j, .slice e6a ys.length e6c] 43)) (by simp) (by simp) (by simp))
            clear hv6 hsk6
            go_wp2_with fail
            go_roundw
            case rel => exact ⟨j, l2, by go_num, by omega, HL2.out, HP2.out, HS6.out, (hkj.trans' hk6 (by simp; omega)).alloc _⟩
            case measure => simp [intOf]
end Go.Proofs.Ytkldomkooleecaa
