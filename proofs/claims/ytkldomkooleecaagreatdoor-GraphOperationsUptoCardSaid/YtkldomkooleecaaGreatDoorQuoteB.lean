/- Walks: strconv.AppendQuote, onto a buffer: digits, the loop. (Printed by genquote.py.) -/
import Derived.Test.YtkldomkooleecaaGreatDoorQuote
namespace Go.Proofs.YtkldomkooleecaaGreatDoor
open Go.RowKit

section
variable {T : Lib.PrintTabs} {B n : Nat} {v : Value} {xs : List Value} {W0 W1 : World}
set_option maxRecDepth 100000 in
set_option maxHeartbeats 3200000 in
theorem escByte (r : Int) (w : World) (hb : OB B v n xs W0 W1 w) (hn : n + 10 ≤ 140737488355328) (hT : PT T w) (h0 : 0 ≤ r) (hx : r < 32 ∨ r = 127) (hr : ¬ (r = 7 ∨ r = 8 ∨ r = 12 ∨ r = 10 ∨ r = 13 ∨ r = 9 ∨ r = 11)) :
    Calls Tryz.prog 105 #[v, .int .i32 r, .int .u8 34, .bool false, .bool false] w fun e w' => ∃ v', e = .returned v' ∧ OB B v' (n + (Lib.escRune T r).length) (xs ++ Lib.intCells (Lib.escRune T r)) W0 W1 w' := by
  have cP := isPrint (T := T) r w h0 (by omega) hT
  have hp : Lib.isPrintR T r = false := by
    have : r ≤ 255 := by omega
    simp only [Lib.isPrintR, if_pos this, Lib.isPrintLatin]
    simp; omega
  rw [hp] at cP
  obtain ⟨k, rfl⟩ := Int.eq_ofNat_of_zero_le h0
  have hk : k < 128 := by omega
  have hE : Lib.escRune T (k : Int) = [92, 120, Lib.hexDigit (k / 16), Lib.hexDigit (k % 16)] := by
    have a1 : ¬ ((k : Int) = 34 ∨ (k : Int) = 92) := by omega
    have b7 : ¬ (k : Int) = 7 := by omega
    have b8 : ¬ (k : Int) = 8 := by omega
    have b12 : ¬ (k : Int) = 12 := by omega
    have b10 : ¬ (k : Int) = 10 := by omega
    have b13 : ¬ (k : Int) = 13 := by omega
    have b9 : ¬ (k : Int) = 9 := by omega
    have b11 : ¬ (k : Int) = 11 := by omega
    simp only [Lib.escRune, if_neg a1, hp, if_neg b7, if_neg b8, if_neg b12, if_neg b10, if_neg b13, if_neg b9, if_neg b11, if_pos hx, Int.toNat_natCast]
    simp
  have hw8 : IntKind.u8.wrap (k : Int) = (k : Int) := by
    have e : (k : Int) % 256 = k := Int.emod_eq_of_lt (by omega) (by omega)
    simp [IntKind.wrap, IntKind.bits, IntKind.signed, e]
  have hbq : ∀ q, OB B v n xs W0 W1 (w.drewN q) := hb.drewN
  rw [hE]
  clear hT hp hb hE
  go_enter Tryz.func105, Tryz.ntmps105
  go_big_wp2_with (first
    | (go_at_call 117; refine Calls.mono cP ?_; rintro e w1 ⟨rfl, q1, rfl⟩; have hb := hbq q1)
    | (refine wpList_ob rfl _ _ rfl rfl [.int .u8 _] (by simp [Value.oneCell']) (by assumption) rfl (by first | omega | (simp only [Lib.size_two, List.length_cons, List.length_nil]; omega)) ?_; intro _ _ hb)
    | (refine wpList_ob_text rfl _ _ rfl rfl (by assumption) _ rfl (by first | omega | (simp only [Lib.size_two]; omega)) ?_; intro _ _ hb))
  all_goals
    go_ret
    exact ⟨_, rfl, by simpa [Lib.intCells, Lib.strCells, Lib.size_two, Lib.lowerhex_at, List.append_assoc] using hb⟩

set_option maxRecDepth 20000 in
set_option maxHeartbeats 6400000 in
theorem escFour (r : Int) (w : World) (hb : OB B v n xs W0 W1 w) (hn : n + 10 ≤ 140737488355328) (hT : PT T w) (h80 : 128 ≤ r) (hlt : r < 65536) (hv : Lib.validRune r = true) (hp : Lib.isPrintR T r = false) :
    Calls Tryz.prog 105 #[v, .int .i32 r, .int .u8 34, .bool false, .bool false] w fun e w' => ∃ v', e = .returned v' ∧ OB B v' (n + (Lib.escRune T r).length) (xs ++ Lib.intCells (Lib.escRune T r)) W0 W1 w' := by
  have hr1 : r ≤ 2147483647 := by simp [Lib.validRune] at hv; omega
  have cP := isPrint (T := T) r w (by omega) hr1 hT
  rw [hp] at cP
  have cV : ∀ q, Calls Tryz.prog 120 #[.int .i32 r] (w.drewN q) fun e w' => e = .returned (.bool true) ∧ w' = w.drewN q := fun q => by
    rw [← hv]; exact Any.utf8_ValidRune { Tryz.lays289 with } r _
  have hbq : ∀ q, OB B v n xs W0 W1 (w.drewN q) := hb.drewN
  obtain ⟨k, hk⟩ := Int.eq_ofNat_of_zero_le (show 0 ≤ r by omega)
  have hk31 : k < 2147483648 := by omega
  have hE : Lib.escRune T r = 92 :: 117 :: Lib.hexDigits k 4 := by
    have a1 : ¬ (r = 34 ∨ r = 92) := by omega
    have b7 : ¬ r = 7 := by omega
    have b8 : ¬ r = 8 := by omega
    have b12 : ¬ r = 12 := by omega
    have b10 : ¬ r = 10 := by omega
    have b13 : ¬ r = 13 := by omega
    have b9 : ¬ r = 9 := by omega
    have b11 : ¬ r = 11 := by omega
    have bx : ¬ (r < 32 ∨ r = 127) := by omega
    have hkn : r.toNat = k := by rw [hk]; simp
    simp only [Lib.escRune, if_neg a1, hp, hv, if_neg b7, if_neg b8, if_neg b12, if_neg b10, if_neg b13, if_neg b9, if_neg b11, if_neg bx, if_pos hlt, hkn]
    simp
  rw [hE]
  clear hT hp hv hE hb
  have hq1 : r ≠ 34 := by omega
  have hq2 : r ≠ 92 := by omega
  obtain ⟨d0, hd0, hD0, hL0, hM0⟩ : ∃ d : Nat, Hid (d = k / 4096 % 16) ∧ bits .and .i32 (r / 4096) 15 = (d : Int) ∧ d < 16 ∧ (d : Int) < 16 := ⟨_, Lib.hid rfl, by simpa using Lib.and15_shift r k hk hk31 4096, by omega, by omega⟩
  obtain ⟨d1, hd1, hD1, hL1, hM1⟩ : ∃ d : Nat, Hid (d = k / 256 % 16) ∧ bits .and .i32 (r / 256) 15 = (d : Int) ∧ d < 16 ∧ (d : Int) < 16 := ⟨_, Lib.hid rfl, by simpa using Lib.and15_shift r k hk hk31 256, by omega, by omega⟩
  obtain ⟨d2, hd2, hD2, hL2, hM2⟩ : ∃ d : Nat, Hid (d = k / 16 % 16) ∧ bits .and .i32 (r / 16) 15 = (d : Int) ∧ d < 16 ∧ (d : Int) < 16 := ⟨_, Lib.hid rfl, by simpa using Lib.and15_shift r k hk hk31 16, by omega, by omega⟩
  obtain ⟨d3, hd3, hD3, hL3, hM3⟩ : ∃ d : Nat, Hid (d = k / 1 % 16) ∧ bits .and .i32 r 15 = (d : Int) ∧ d < 16 ∧ (d : Int) < 16 := ⟨_, Lib.hid rfl, by simpa using Lib.and15_shift r k hk hk31 1, by omega, by omega⟩
  have Hk := Lib.hid hk
  clear hk hk31
  go_enter Tryz.func105, Tryz.ntmps105
  go_big_wp2_with (first
    | (go_at_call 117; refine Calls.mono cP ?_; rintro e w1 ⟨rfl, q1, rfl⟩; have hb1 := hbq q1)
    | (go_at_call 120; refine Calls.mono (cV _) ?_; rintro e w2 ⟨rfl, rfl⟩)
    | (refine wpList_ob_text rfl _ _ rfl rfl (by assumption) _ rfl (by first | omega | (simp only [Lib.size_two]; omega)) ?_; intro _ _ hb))
  refine wp_loop_rounds 5 ?_
  rw [rounds_succ]
  go_big_wp2_with (refine wpList_ob rfl _ _ rfl rfl [.int .u8 _] (by simp [Value.oneCell']) (by assumption) rfl (by first | omega | (simp only [Lib.size_two, List.length_cons, List.length_nil]; omega)) ?_; intro _ _ hb)
  rw [rounds_succ]
  go_big_wp2_with (refine wpList_ob rfl _ _ rfl rfl [.int .u8 _] (by simp [Value.oneCell']) (by assumption) rfl (by first | omega | (simp only [Lib.size_two, List.length_cons, List.length_nil]; omega)) ?_; intro _ _ hb)
  rw [rounds_succ]
  go_big_wp2_with (refine wpList_ob rfl _ _ rfl rfl [.int .u8 _] (by simp [Value.oneCell']) (by assumption) rfl (by first | omega | (simp only [Lib.size_two, List.length_cons, List.length_nil]; omega)) ?_; intro _ _ hb)
  rw [rounds_succ]
  go_big_wp2_with (refine wpList_ob rfl _ _ rfl rfl [.int .u8 _] (by simp [Value.oneCell']) (by assumption) rfl (by first | omega | (simp only [Lib.size_two, List.length_cons, List.length_nil]; omega)) ?_; intro _ _ hb)
  rw [rounds_succ]
  go_big_wp2_with (refine wpList_ob rfl _ _ rfl rfl [.int .u8 _] (by simp [Value.oneCell']) (by assumption) rfl (by first | omega | (simp only [Lib.size_two, List.length_cons, List.length_nil]; omega)) ?_; intro _ _ hb)
  go_ret
  exact ⟨_, rfl, by simpa [Lib.intCells, Lib.strCells, Lib.size_two, Lib.lowerhex_at, Lib.hexDigits, List.append_assoc, hd0.out, hd1.out, hd2.out, hd3.out] using hb⟩

set_option maxRecDepth 20000 in
set_option maxHeartbeats 6400000 in
theorem escEight (r : Int) (w : World) (hb : OB B v n xs W0 W1 w) (hn : n + 10 ≤ 140737488355328) (hT : PT T w) (h80 : 65536 ≤ r) (hv : Lib.validRune r = true) (hp : Lib.isPrintR T r = false) :
    Calls Tryz.prog 105 #[v, .int .i32 r, .int .u8 34, .bool false, .bool false] w fun e w' => ∃ v', e = .returned v' ∧ OB B v' (n + (Lib.escRune T r).length) (xs ++ Lib.intCells (Lib.escRune T r)) W0 W1 w' := by
  have hr1 : r ≤ 2147483647 := by simp [Lib.validRune] at hv; omega
  have cP := isPrint (T := T) r w (by omega) hr1 hT
  rw [hp] at cP
  have cV : ∀ q, Calls Tryz.prog 120 #[.int .i32 r] (w.drewN q) fun e w' => e = .returned (.bool true) ∧ w' = w.drewN q := fun q => by
    rw [← hv]; exact Any.utf8_ValidRune { Tryz.lays289 with } r _
  have hbq : ∀ q, OB B v n xs W0 W1 (w.drewN q) := hb.drewN
  obtain ⟨k, hk⟩ := Int.eq_ofNat_of_zero_le (show 0 ≤ r by omega)
  have hk31 : k < 2147483648 := by omega
  have hE : Lib.escRune T r = 92 :: 85 :: Lib.hexDigits k 8 := by
    have a1 : ¬ (r = 34 ∨ r = 92) := by omega
    have b7 : ¬ r = 7 := by omega
    have b8 : ¬ r = 8 := by omega
    have b12 : ¬ r = 12 := by omega
    have b10 : ¬ r = 10 := by omega
    have b13 : ¬ r = 13 := by omega
    have b9 : ¬ r = 9 := by omega
    have b11 : ¬ r = 11 := by omega
    have bx : ¬ (r < 32 ∨ r = 127) := by omega
    have hkn : r.toNat = k := by rw [hk]; simp
    simp only [Lib.escRune, if_neg a1, hp, hv, if_neg b7, if_neg b8, if_neg b12, if_neg b10, if_neg b13, if_neg b9, if_neg b11, if_neg bx, if_neg (show ¬ r < 65536 by omega), hkn]
    simp
  rw [hE]
  clear hT hp hv hE hb
  have hq1 : r ≠ 34 := by omega
  have hq2 : r ≠ 92 := by omega
  obtain ⟨d0, hd0, hD0, hL0, hM0⟩ : ∃ d : Nat, Hid (d = k / 268435456 % 16) ∧ bits .and .i32 (r / 268435456) 15 = (d : Int) ∧ d < 16 ∧ (d : Int) < 16 := ⟨_, Lib.hid rfl, by simpa using Lib.and15_shift r k hk hk31 268435456, by omega, by omega⟩
  obtain ⟨d1, hd1, hD1, hL1, hM1⟩ : ∃ d : Nat, Hid (d = k / 16777216 % 16) ∧ bits .and .i32 (r / 16777216) 15 = (d : Int) ∧ d < 16 ∧ (d : Int) < 16 := ⟨_, Lib.hid rfl, by simpa using Lib.and15_shift r k hk hk31 16777216, by omega, by omega⟩
  obtain ⟨d2, hd2, hD2, hL2, hM2⟩ : ∃ d : Nat, Hid (d = k / 1048576 % 16) ∧ bits .and .i32 (r / 1048576) 15 = (d : Int) ∧ d < 16 ∧ (d : Int) < 16 := ⟨_, Lib.hid rfl, by simpa using Lib.and15_shift r k hk hk31 1048576, by omega, by omega⟩
  obtain ⟨d3, hd3, hD3, hL3, hM3⟩ : ∃ d : Nat, Hid (d = k / 65536 % 16) ∧ bits .and .i32 (r / 65536) 15 = (d : Int) ∧ d < 16 ∧ (d : Int) < 16 := ⟨_, Lib.hid rfl, by simpa using Lib.and15_shift r k hk hk31 65536, by omega, by omega⟩
  obtain ⟨d4, hd4, hD4, hL4, hM4⟩ : ∃ d : Nat, Hid (d = k / 4096 % 16) ∧ bits .and .i32 (r / 4096) 15 = (d : Int) ∧ d < 16 ∧ (d : Int) < 16 := ⟨_, Lib.hid rfl, by simpa using Lib.and15_shift r k hk hk31 4096, by omega, by omega⟩
  obtain ⟨d5, hd5, hD5, hL5, hM5⟩ : ∃ d : Nat, Hid (d = k / 256 % 16) ∧ bits .and .i32 (r / 256) 15 = (d : Int) ∧ d < 16 ∧ (d : Int) < 16 := ⟨_, Lib.hid rfl, by simpa using Lib.and15_shift r k hk hk31 256, by omega, by omega⟩
  obtain ⟨d6, hd6, hD6, hL6, hM6⟩ : ∃ d : Nat, Hid (d = k / 16 % 16) ∧ bits .and .i32 (r / 16) 15 = (d : Int) ∧ d < 16 ∧ (d : Int) < 16 := ⟨_, Lib.hid rfl, by simpa using Lib.and15_shift r k hk hk31 16, by omega, by omega⟩
  obtain ⟨d7, hd7, hD7, hL7, hM7⟩ : ∃ d : Nat, Hid (d = k / 1 % 16) ∧ bits .and .i32 r 15 = (d : Int) ∧ d < 16 ∧ (d : Int) < 16 := ⟨_, Lib.hid rfl, by simpa using Lib.and15_shift r k hk hk31 1, by omega, by omega⟩
  have Hk := Lib.hid hk
  clear hk hk31
  go_enter Tryz.func105, Tryz.ntmps105
  go_big_wp2_with (first
    | (go_at_call 117; refine Calls.mono cP ?_; rintro e w1 ⟨rfl, q1, rfl⟩; have hb1 := hbq q1)
    | (go_at_call 120; refine Calls.mono (cV _) ?_; rintro e w2 ⟨rfl, rfl⟩)
    | (refine wpList_ob_text rfl _ _ rfl rfl (by assumption) _ rfl (by first | omega | (simp only [Lib.size_two]; omega)) ?_; intro _ _ hb))
  refine wp_loop_rounds 9 ?_
  rw [rounds_succ]
  go_big_wp2_with (refine wpList_ob rfl _ _ rfl rfl [.int .u8 _] (by simp [Value.oneCell']) (by assumption) rfl (by first | omega | (simp only [Lib.size_two, List.length_cons, List.length_nil]; omega)) ?_; intro _ _ hb)
  rw [rounds_succ]
  go_big_wp2_with (refine wpList_ob rfl _ _ rfl rfl [.int .u8 _] (by simp [Value.oneCell']) (by assumption) rfl (by first | omega | (simp only [Lib.size_two, List.length_cons, List.length_nil]; omega)) ?_; intro _ _ hb)
  rw [rounds_succ]
  go_big_wp2_with (refine wpList_ob rfl _ _ rfl rfl [.int .u8 _] (by simp [Value.oneCell']) (by assumption) rfl (by first | omega | (simp only [Lib.size_two, List.length_cons, List.length_nil]; omega)) ?_; intro _ _ hb)
  rw [rounds_succ]
  go_big_wp2_with (refine wpList_ob rfl _ _ rfl rfl [.int .u8 _] (by simp [Value.oneCell']) (by assumption) rfl (by first | omega | (simp only [Lib.size_two, List.length_cons, List.length_nil]; omega)) ?_; intro _ _ hb)
  rw [rounds_succ]
  go_big_wp2_with (refine wpList_ob rfl _ _ rfl rfl [.int .u8 _] (by simp [Value.oneCell']) (by assumption) rfl (by first | omega | (simp only [Lib.size_two, List.length_cons, List.length_nil]; omega)) ?_; intro _ _ hb)
  rw [rounds_succ]
  go_big_wp2_with (refine wpList_ob rfl _ _ rfl rfl [.int .u8 _] (by simp [Value.oneCell']) (by assumption) rfl (by first | omega | (simp only [Lib.size_two, List.length_cons, List.length_nil]; omega)) ?_; intro _ _ hb)
  rw [rounds_succ]
  go_big_wp2_with (refine wpList_ob rfl _ _ rfl rfl [.int .u8 _] (by simp [Value.oneCell']) (by assumption) rfl (by first | omega | (simp only [Lib.size_two, List.length_cons, List.length_nil]; omega)) ?_; intro _ _ hb)
  rw [rounds_succ]
  go_big_wp2_with (refine wpList_ob rfl _ _ rfl rfl [.int .u8 _] (by simp [Value.oneCell']) (by assumption) rfl (by first | omega | (simp only [Lib.size_two, List.length_cons, List.length_nil]; omega)) ?_; intro _ _ hb)
  rw [rounds_succ]
  go_big_wp2_with (refine wpList_ob rfl _ _ rfl rfl [.int .u8 _] (by simp [Value.oneCell']) (by assumption) rfl (by first | omega | (simp only [Lib.size_two, List.length_cons, List.length_nil]; omega)) ?_; intro _ _ hb)
  go_ret
  exact ⟨_, rfl, by simpa [Lib.intCells, Lib.strCells, Lib.size_two, Lib.lowerhex_at, Lib.hexDigits, List.append_assoc, hd0.out, hd1.out, hd2.out, hd3.out, hd4.out, hd5.out, hd6.out, hd7.out] using hb⟩

/-- strconv.appendEscapedRune at a valid rune. -/
theorem escRune (r : Int) (w : World) (hb : OB B v n xs W0 W1 w) (hn : n + 10 ≤ 140737488355328) (hT : PT T w) (hv : Lib.validRune r = true) :
    Calls Tryz.prog 105 #[v, .int .i32 r, .int .u8 34, .bool false, .bool false] w fun e w' => ∃ v', e = .returned v' ∧ OB B v' (n + (Lib.escRune T r).length) (xs ++ Lib.intCells (Lib.escRune T r)) W0 W1 w' := by
  have hr : 0 ≤ r ∧ r ≤ 1114111 := by
    have := hv; simp [Lib.validRune] at this; omega
  by_cases hq : r = 34 ∨ r = 92
  · exact escPlain r w hb hn hq
  by_cases hp : Lib.isPrintR T r = true
  · exact escSeen r w hb hn hT hr.1 hv (by omega) (by omega) hp
  have hp' : Lib.isPrintR T r = false := by simpa using hp
  by_cases hm : r = 7 ∨ r = 8 ∨ r = 12 ∨ r = 10 ∨ r = 13 ∨ r = 9 ∨ r = 11
  · exact escNamed r w hb hn hT hm
  by_cases hx : r < 32 ∨ r = 127
  · exact escByte r w hb hn hT hr.1 hx hm
  have h80 : 128 ≤ r := by
    rcases Int.lt_or_le r 128 with h | h
    · exfalso
      have : Lib.isPrintR T r = true := by
        have a : r ≤ 255 := by omega
        simp only [Lib.isPrintR, if_pos a, Lib.isPrintLatin]
        simp; omega
      exact hp this
    · exact h
  by_cases hlt : r < 65536
  · exact escFour r w hb hn hT h80 hlt hv hp'
  · exact escEight r w hb hn hT (by omega) hv hp'
end
end Go.Proofs.YtkldomkooleecaaGreatDoor
