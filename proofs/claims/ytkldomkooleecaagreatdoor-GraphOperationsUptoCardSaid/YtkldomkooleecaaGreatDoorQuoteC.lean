/- Walks: strconv.appendQuotedWith and AppendQuote, onto a buffer. -/
import Derived.Test.YtkldomkooleecaaGreatDoorQuoteB
namespace Go.Proofs.YtkldomkooleecaaGreatDoor
open Go.RowKit

theorem PT.below {T : Lib.PrintTabs} {w w' : World} (h : PT T w) (k : Below w.heap.size w w') : PT T w' := printTabs_below h k
theorem UT.below {w w' : World} (h : UT w) (k : Below w.heap.size w w') : UT w' := Utf8Tabs_below h k

section
variable {T : Lib.PrintTabs} {n : Nat} {v : Value} {xs : List Value} {W0 W1 : World}
set_option maxRecDepth 1000000 in
set_option maxHeartbeats 6400000 in
theorem quotedWith (s : ByteArray) (w : World) (hb : OB W0.heap.size v n xs W0 W1 w) (hn : n + 10 * s.size + 12 ≤ 140737488355328) (hT : PT T W0) (hU : UT W0) :
    Calls Tryz.prog 90 #[v, .string s, .int .u8 34, .bool false, .bool false] w fun e w' => ∃ v', e = .returned v' ∧ OB W0.heap.size v' (n + (Lib.quoteZ T s).length) (xs ++ Lib.intCells (Lib.quoteZ T s)) W0 W1 w' := by
  obtain ⟨i0, hi, hz0, hz1, hz2⟩ := info_parts info_byte
  obtain ⟨B, hB⟩ : ∃ B, B = W0.heap.size := ⟨_, rfl⟩
  rw [← hB] at hb ⊢
  have HB := Lib.hid hB
  clear hB
  obtain ⟨a, c, rfl, h1, h2⟩ := hb.shape
  have hsz : s.size ≤ 100000000000000 := by omega
  have hwc : wrap64 ((c : Int) - (n : Int)) = (c : Int) - (n : Int) := by unfold wrap64; omega
  have hw1 : IntKind.i64.wrap ((n : Int) + 1) = (n : Int) + 1 := IntWalk.i64_in _ (by omega)
  have hw2 : IntKind.i64.wrap ((n : Int) + 1 + (s.size : Int)) = (n : Int) + 1 + (s.size : Int) := IntWalk.i64_in _ (by omega)
  have hw3 : IntKind.i64.wrap ((n : Int) + 1 + (s.size : Int) + 1) = (n : Int) + 1 + (s.size : Int) + 1 := IntWalk.i64_in _ (by omega)
  obtain ⟨C, hC⟩ : ∃ C : Nat, C = n + 1 + s.size + 1 := ⟨_, rfl⟩
  have hCi : (n : Int) + 1 + (s.size : Int) + 1 = (C : Int) := by omega
  obtain ⟨M, hM⟩ : ∃ M : List Value, madeCells (Value.int .u8 0).cells (C * i0.size) = M.toArray := ⟨_, (Array.toArray_toList).symm⟩
  have hMl : M.length = C := by
    have := congrArg Array.size hM
    simpa [madeCells, hz1] using this.symm
  have hmk : ∀ w : World, (Instr.makeSlice 105 (.int .i64 (n : Int)) (.int .i64 ((n : Int) + 1 + (s.size : Int) + 1))).run Tryz.prog w = .ok (.slice (some ⟨w.heap.size, 0, none⟩) n C) (w.alloc (.cells M.toArray 5)) := by
    intro w
    rw [hCi]
    have := run_make (P := Tryz.prog) w 105 5 i0 (.int .u8 0) Tryz.underlying105 hi hz0 .i64 .i64 (n : Int) (C : Int) (by omega) (by omega) (by rw [hz2]; omega) (by omega)
    rw [this]
    simp [hM]
  have hCn : n ≤ C := by omega
  have hCm : C ≤ maxLen := by unfold maxLen; omega
  clear hM hCi hC
  have HT := Lib.hid hT
  have HU := Lib.hid hU
  have HOB := Lib.hid hb
  clear hT hU
  by_cases hroom : (c : Int) - (n : Int) < (s.size : Int)
  all_goals
    go_enter Tryz.func90, Tryz.ntmps90
    go_big_wp2_with (first
      | (refine wpList_ob_copy rfl _ _ rfl HOB.out M C hMl hCn hCm rfl rfl ?_; intro _ _ hb)
      | (refine wpList_ob rfl _ _ rfl rfl [.int .u8 34] (by simp [Value.oneCell']) (by assumption) rfl (by simp; omega) ?_; intro _ _ hb))
    have Hb0 := Lib.hid hb
    go_loopw [0, 1, 12, 13] (fun vb vs _ _ wr => ∃ (rest : ByteArray) (acc : List Int) (f : Nat), vs = .string rest ∧ rest.size ≤ f ∧ Hid (OB B vb (n + 1 + acc.length) (xs ++ [.int .u8 34] ++ Lib.intCells acc) W0 W1 wr) ∧ Hid (acc ++ Lib.quoteFrom T f rest = Lib.quoteFrom T s.size s) ∧ acc.length + 10 * rest.size ≤ 10 * s.size)
      (fun _ vs _ _ _ => match vs with | .string r => r.size | _ => 0)
    case atStart => exact ⟨s, [], s.size, rfl, Nat.le_refl _, by simpa [Hid, Lib.intCells] using Hb0.out, rfl, by simp⟩
    case round =>
      obtain ⟨rest, acc, f, rfl, hf, hbr, hq, hl⟩ := hrel
      obtain ⟨wo, hwo⟩ : ∃ wo : World, wo = wr := ⟨_, rfl⟩
      subst hwo
      have hBel : Below W0.heap.size W0 wo := by have := hbr.out.bel; rwa [HB.out] at this
      by_cases h0 : 0 < rest.size
      · have h0' : (0 : Int) < (rest.size : Int) := by omega
        obtain ⟨R, hR⟩ : ∃ R, R = (Utf8.decode rest 0).1 := ⟨_, rfl⟩
        obtain ⟨K, hK⟩ : ∃ K, K = (Utf8.decode rest 0).2 := ⟨_, rfl⟩
        have hK1 : 1 ≤ K := by rw [hK]; exact Lib.width_pos _ _
        have hK2 : K ≤ rest.size := by rw [hK]; exact Lib.width_le _ h0
        have hRv : Lib.validRune (R : Int) = true := by rw [hR]; exact Lib.rune_valid _
        have cD : Calls Tryz.prog 104 #[.string rest] wo fun e w' => e = .returned (.tuple #[.int .i32 R, .int .i64 K]) ∧ Below wo.heap.size wo w' := by
          have e : Lib.decodeGo rest = (R, K) := by
            have hne : ¬ rest.size = 0 := by omega
            rw [hR, hK]; simp [Lib.decodeGo, hne]
          have := Any.utf8_DecodeRuneInString { Tryz.lays289 with } rest wo (Utf8Tabs_below HU.out hBel)
          rwa [e] at this
        have HR := Lib.hid hR
        have HK := Lib.hid hK
        clear hR hK
        have HRV := Lib.hid hRv
        have hTo : PT T wo := PT.below HT.out hBel
        have HTO := Lib.hid hTo
        clear hRv hTo hBel
        have hsz2 : (rest.extract K rest.size).size = rest.size - K := Lib.size_rest rest K
        by_cases hbad : K = 1 ∧ R = 65533
        · obtain ⟨rfl, rfl⟩ := hbad
          have hx255 := UInt8.toNat_lt (rest[0]'h0)
          have hx16 : 0 ≤ (((rest[0]'h0).toNat : Nat) : Int) / 16 ∧ (((rest[0]'h0).toNat : Nat) : Int) / 16 < 16 := by omega
          have hst := Lib.quoteStep_bad T rest h0 HK.out HR.out
          go_big_wp2_with (first
            | (go_at_call 104; refine Calls.mono cD ?_; rintro e w1 ⟨rfl, hbl⟩; have hb := hbr.out.below hbl)
            | (refine wpList_ob rfl _ _ rfl rfl [.int .u8 _] (by simp [Value.oneCell']) (by assumption) rfl (by first | omega | (simp only [Lib.size_two, List.length_cons, List.length_nil]; omega)) ?_; intro _ _ hb)
            | (refine wpList_ob_text rfl _ _ rfl rfl (by assumption) _ rfl (by first | omega | (simp only [Lib.size_two]; omega)) ?_; intro _ _ hb))
          go_roundw
          case rel =>
            refine ⟨_, acc ++ Lib.quoteStep T rest, f - 1, rfl, by omega, ?_, ?_, ?_⟩
            · rw [hst]
              simpa [Hid, Lib.intCells, Lib.strCells, Lib.size_two, Lib.lowerhex_at, List.append_assoc, Nat.add_assoc] using hb
            · show acc ++ Lib.quoteStep T rest ++ Lib.quoteFrom T (f - 1) (rest.extract 1 rest.size) = _
              rw [← hq.out, Lib.quoteFrom_step T f rest h0 hf, ← HK.out, List.append_assoc]
            · have := Lib.quoteStep_length_le T rest
              simp only [List.length_append]; omega
          case measure => simp only []; omega
        · have hst : Lib.quoteStep T rest = Lib.escRune T (R : Int) := by
            rw [HR.out]; exact Lib.quoteStep_good T rest (by rw [← HK.out, ← HR.out]; exact hbad)
          have HST := Lib.hid hst
          clear hst
          by_cases hK1e : K = 1
          · subst hK1e
            have hR' : ¬ (R : Int) = 65533 := by omega
            go_big_wp2_with (first
              | (go_at_call 104; refine Calls.mono cD ?_; rintro e w1 ⟨rfl, hbl⟩; have HBL := Lib.hid hbl; clear hbl)
              | (go_at_call 105; refine Calls.mono (escRune (T := T) (R : Int) _ (hbr.out.below HBL.out) (by omega) (PT.below HTO.out HBL.out) HRV.out) ?_; rintro e w2 ⟨v2, rfl, hb2⟩))
            go_roundw
            case rel =>
              refine ⟨_, acc ++ Lib.quoteStep T rest, f - 1, rfl, by omega, ?_, ?_, ?_⟩
              · rw [HST.out]
                simpa [Hid, Lib.intCells, List.append_assoc, Nat.add_assoc] using hb2
              · show acc ++ Lib.quoteStep T rest ++ Lib.quoteFrom T (f - 1) (rest.extract 1 rest.size) = _
                rw [← hq.out, Lib.quoteFrom_step T f rest h0 hf, ← HK.out, List.append_assoc]
              · have := Lib.quoteStep_length_le T rest
                simp only [List.length_append]; omega
            case measure => simp only []; omega
          · have hK2' : (K : Int) ≤ (rest.size : Int) := by omega
            have hK1' : ¬ (K : Int) = 1 := by omega
            go_big_wp2_with (first
              | (go_at_call 104; refine Calls.mono cD ?_; rintro e w1 ⟨rfl, hbl⟩; have HBL := Lib.hid hbl; clear hbl)
              | (go_at_call 105; refine Calls.mono (escRune (T := T) (R : Int) _ (hbr.out.below HBL.out) (by omega) (PT.below HTO.out HBL.out) HRV.out) ?_; rintro e w2 ⟨v2, rfl, hb2⟩))
            go_roundw
            case rel =>
              refine ⟨_, acc ++ Lib.quoteStep T rest, f - 1, rfl, by omega, ?_, ?_, ?_⟩
              · rw [HST.out]
                simpa [Hid, Lib.intCells, List.append_assoc, Nat.add_assoc] using hb2
              · show acc ++ Lib.quoteStep T rest ++ Lib.quoteFrom T (f - 1) (rest.extract K rest.size) = _
                rw [← hq.out, Lib.quoteFrom_step T f rest h0 hf, ← HK.out, List.append_assoc]
              · have := Lib.quoteStep_length_le T rest
                simp only [List.length_append]; omega
            case measure => simp only []; omega
      · have h0' : ¬ (0 : Int) < (rest.size : Int) := by omega
        have hbx := hbr.out
        go_big_wp2_with (refine wpList_ob rfl _ _ rfl rfl [.int .u8 34] (by simp [Value.oneCell']) (by assumption) rfl (by simp; omega) ?_; intro _ _ hb)
        go_ret
        refine ⟨_, rfl, ?_⟩
        have hqe : Lib.quoteFrom T s.size s = acc := by rw [← hq.out, Lib.quoteFrom_end T f rest h0]; simp
        have hlenq : n + (Lib.quoteZ T s).length = n + 1 + acc.length + 1 := by simp [Lib.quoteZ, hqe]; omega
        have hcells : xs ++ Lib.intCells (Lib.quoteZ T s) = xs ++ [.int .u8 34] ++ Lib.intCells acc ++ [.int .u8 34] := by simp [Lib.quoteZ, hqe, Lib.intCells]
        rw [hlenq, hcells]
        exact hb

set_option maxRecDepth 100000 in
theorem appendQuote (s : ByteArray) (w : World) (hb : OB W0.heap.size v n xs W0 W1 w) (hn : n + 10 * s.size + 12 ≤ 140737488355328) (hT : PT T W0) (hU : UT W0) :
    Calls Tryz.prog 71 #[v, .string s] w fun e w' => ∃ v', e = .returned v' ∧ OB W0.heap.size v' (n + (Lib.quoteZ T s).length) (xs ++ Lib.intCells (Lib.quoteZ T s)) W0 W1 w' := by
  go_enter Tryz.func71, Tryz.ntmps71
  go_wp2_with (go_at_call 90; refine Calls.mono (quotedWith s _ hb hn hT hU) ?_; rintro e w1 ⟨v1, rfl, hb1⟩)
  go_ret
  exact ⟨_, rfl, hb1⟩
end
end Go.Proofs.YtkldomkooleecaaGreatDoor
