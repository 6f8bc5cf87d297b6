/- Walks: the key of the empty tuple (own.TypeKey), through strconv. -/
import Derived.Test.YtkldomkooleecaaDoorTyCmp
import Derived.Lib.BufSteps
import Derived.Lib.AppendStr
import Derived.Laws.BytesArg
namespace Go.Proofs.YtkldomkooleecaaDoor
open Go.RowKit

theorem info_byte : (Tryd.prog.info? 5).map (fun i => (i.zero, i.size, i.bytes)) = some (some (.int .u8 0), 1, 1) := by kernel_rfl
theorem buf_shape {B n : Nat} {v : Value} {xs : List Value} {W0 w : World} (h : Lib.OwnBuf B 5 v n xs W0 w) : ∃ a c, v = .slice a n c ∧ n ≤ c ∧ c ≤ 9223372036854775807 := by
  rcases h.1.2 with ⟨rfl, h2⟩ | ⟨g, cap, cur, q, rfl, hb, hg, h0, h3, h4, _⟩
  · rw [h2]; exact ⟨none, 0, rfl, Nat.le_refl _, by simp⟩
  · exact ⟨_, _, rfl, h3, by simpa [maxLen] using h4⟩

set_option maxRecDepth 100000 in
theorem small3 (w : World) : Calls Tryd.prog 81 #[.int .i64 3] w fun e w' => e = .returned (.string ⟨#[51]⟩) ∧ w' = w := by
  go_enter Tryd.func81, Tryd.ntmps81
  go_wp2
  go_ret
  exact ⟨by first | rfl | kernel_rfl | decide, rfl⟩
set_option maxRecDepth 100000 in
theorem appendUint3 {B n : Nat} {v : Value} {xs : List Value} {W0 : World} (w : World) (hb : Lib.OwnBuf B 5 v n xs W0 w) (hn : n ≤ 1000) :
    Calls Tryd.prog 78 #[v, .int .u64 3, .int .i64 10] w fun e w' => ∃ v', e = .returned v' ∧ Lib.OwnBuf B 5 v' (n + 1) (xs ++ [.int .u8 51]) W0 w' := by
  obtain ⟨i0, hi, hz0, hz1, hz2⟩ := info_parts info_byte
  obtain ⟨a, c, rfl, h1, h2⟩ := buf_shape hb
  go_enter Tryd.func78, Tryd.ntmps78
  go_wp2_with (first
    | (go_at_call 81; refine Calls.mono (small3 _) ?_; rintro e w1 ⟨rfl, rfl⟩)
    | (refine Lib.wpList_append_text rfl (.tmp 13) (.tmp 16) 106 9 rfl B 5 i0 Tryd.underlying106 Tryd.underlying9 hi hz0 hz1 hz2 _ n xs rfl W0 hb ⟨#[51]⟩ rfl (by show n + 1 ≤ _; omega) ?_; intro v1 w1 hb1))
  go_ret
  exact ⟨_, rfl, hb1⟩
set_option maxRecDepth 100000 in
theorem appendInt3 {B n : Nat} {v : Value} {xs : List Value} {W0 : World} (w : World) (hb : Lib.OwnBuf B 5 v n xs W0 w) (hn : n ≤ 1000) :
    Calls Tryd.prog 68 #[v, .int .i64 3, .int .i64 10] w fun e w' => ∃ v', e = .returned v' ∧ Lib.OwnBuf B 5 v' (n + 1) (xs ++ [.int .u8 51]) W0 w' := by
  have hin : Calls Tryd.prog 74 #[v, .int .i64 3, .int .i64 10] w fun e w' => ∃ v', e = .returned v' ∧ Lib.OwnBuf B 5 v' (n + 1) (xs ++ [.int .u8 51]) W0 w' := by
    go_enter Tryd.func74, Tryd.ntmps74
    go_wp2_with (go_at_call 78; refine Calls.mono (appendUint3 _ hb hn) ?_; rintro e w1 ⟨v1, rfl, hb1⟩)
    go_ret
    exact ⟨_, rfl, hb1⟩
  go_enter Tryd.func68, Tryd.ntmps68
  go_wp2_with (go_at_call 74; refine Calls.mono hin ?_; rintro e w1 ⟨v1, rfl, hb1⟩)
  go_ret
  exact ⟨_, rfl, hb1⟩

set_option maxRecDepth 100000 in
theorem small0 (w : World) : Calls Tryd.prog 81 #[.int .i64 0] w fun e w' => e = .returned (.string ⟨#[48]⟩) ∧ w' = w := by
  go_enter Tryd.func81, Tryd.ntmps81
  go_wp2
  go_ret
  exact ⟨by first | rfl | kernel_rfl | decide, rfl⟩
set_option maxRecDepth 100000 in
theorem appendUint0 {B n : Nat} {v : Value} {xs : List Value} {W0 : World} (w : World) (hb : Lib.OwnBuf B 5 v n xs W0 w) (hn : n ≤ 1000) :
    Calls Tryd.prog 78 #[v, .int .u64 0, .int .i64 10] w fun e w' => ∃ v', e = .returned v' ∧ Lib.OwnBuf B 5 v' (n + 1) (xs ++ [.int .u8 48]) W0 w' := by
  obtain ⟨i0, hi, hz0, hz1, hz2⟩ := info_parts info_byte
  obtain ⟨a, c, rfl, h1, h2⟩ := buf_shape hb
  go_enter Tryd.func78, Tryd.ntmps78
  go_wp2_with (first
    | (go_at_call 81; refine Calls.mono (small0 _) ?_; rintro e w1 ⟨rfl, rfl⟩)
    | (refine Lib.wpList_append_text rfl (.tmp 13) (.tmp 16) 106 9 rfl B 5 i0 Tryd.underlying106 Tryd.underlying9 hi hz0 hz1 hz2 _ n xs rfl W0 hb ⟨#[48]⟩ rfl (by show n + 1 ≤ _; omega) ?_; intro v1 w1 hb1))
  go_ret
  exact ⟨_, rfl, hb1⟩
set_option maxRecDepth 100000 in
theorem appendInt0 {B n : Nat} {v : Value} {xs : List Value} {W0 : World} (w : World) (hb : Lib.OwnBuf B 5 v n xs W0 w) (hn : n ≤ 1000) :
    Calls Tryd.prog 68 #[v, .int .i64 0, .int .i64 10] w fun e w' => ∃ v', e = .returned v' ∧ Lib.OwnBuf B 5 v' (n + 1) (xs ++ [.int .u8 48]) W0 w' := by
  have hin : Calls Tryd.prog 74 #[v, .int .i64 0, .int .i64 10] w fun e w' => ∃ v', e = .returned v' ∧ Lib.OwnBuf B 5 v' (n + 1) (xs ++ [.int .u8 48]) W0 w' := by
    go_enter Tryd.func74, Tryd.ntmps74
    go_wp2_with (go_at_call 78; refine Calls.mono (appendUint0 _ hb hn) ?_; rintro e w1 ⟨v1, rfl, hb1⟩)
    go_ret
    exact ⟨_, rfl, hb1⟩
  go_enter Tryd.func68, Tryd.ntmps68
  go_wp2_with (go_at_call 74; refine Calls.mono hin ?_; rintro e w1 ⟨v1, rfl, hb1⟩)
  go_ret
  exact ⟨_, rfl, hb1⟩

set_option maxRecDepth 100000 in
theorem quoteNil {B n : Nat} {v : Value} {xs : List Value} {W0 : World} (w : World) (hb : Lib.OwnBuf B 5 v n xs W0 w) (hn : n ≤ 1000) :
    Calls Tryd.prog 75 #[v, .string ⟨#[]⟩, .int .u8 34, .bool false, .bool false] w fun e w' => ∃ v', e = .returned v' ∧ Lib.OwnBuf B 5 v' (n + 1 + 1) (xs ++ [.int .u8 34] ++ [.int .u8 34]) W0 w' := by
  obtain ⟨i0, hi, hz0, hz1, hz2⟩ := info_parts info_byte
  obtain ⟨a, c, rfl, h1, h2⟩ := buf_shape hb
  have hw1 : IntKind.i64.wrap ((c : Int) - n) = (c : Int) - n := IntWalk.i64_in _ (by omega)
  have hw2 : ¬ ((c : Int) - n < 0) := by omega
  have hw3 : decide ((c : Int) - n < 0) = false := by simpa using hw2
  go_enter Tryd.func75, Tryd.ntmps75
  go_wp2_with (refine Lib.wpList_append_byte rfl (.tmp 36) (.tmp 38) 106 rfl B 5 i0 Tryd.underlying106 hi hz0 hz1 hz2 _ n xs rfl W0 w 34 hb rfl (by omega) ?_; intro v1 w1 hb1)
  go_loop [0, 1, 12, 13] (fun u s _ _ => u = v1 ∧ s = .string ⟨#[]⟩) (fun _ _ _ _ => 0)
  case atStart => exact ⟨rfl, rfl⟩
  case round =>
    obtain ⟨rfl, rfl⟩ := hrel
    go_wp2_with (refine Lib.wpList_append_byte rfl (.tmp 79) (.tmp 81) 106 rfl B 5 i0 Tryd.underlying106 hi hz0 hz1 hz2 _ (n + 1) _ rfl W0 w1 34 hb1 rfl (by omega) ?_; intro v2 w2 hb2)
    go_ret
    exact ⟨v2, by first | rfl | simp, by simpa using hb2⟩
set_option maxRecDepth 100000 in
theorem appendQuoteNil {B n : Nat} {v : Value} {xs : List Value} {W0 : World} (w : World) (hb : Lib.OwnBuf B 5 v n xs W0 w) (hn : n ≤ 1000) :
    Calls Tryd.prog 69 #[v, .string ⟨#[]⟩] w fun e w' => ∃ v', e = .returned v' ∧ Lib.OwnBuf B 5 v' (n + 1 + 1) (xs ++ [.int .u8 34] ++ [.int .u8 34]) W0 w' := by
  go_enter Tryd.func69, Tryd.ntmps69
  go_wp2_with (go_at_call 75; refine Calls.mono (quoteNil _ hb hn) ?_; rintro e w1 ⟨v1, rfl, hb1⟩)
  go_ret
  exact ⟨_, rfl, hb1⟩

/-- The key's letters: 3,""0() -/
def keyCells : List Value := [.int .u8 51, .int .u8 44, .int .u8 34, .int .u8 34, .int .u8 48, .int .u8 40, .int .u8 41]
set_option maxRecDepth 100000 in
theorem keyBytes (a : Option Addr) (c : Nat) (w : World) :
    Calls Tryd.prog 60 #[.slice none 0 0, .agg #[.int .i64 3, .string ⟨#[]⟩, .int .i64 0, .slice a 0 c]] w fun e w' => ∃ (W0 : World) (v' : Value), e = .returned v' ∧ Lib.OwnBuf W0.heap.size 5 v' 7 keyCells W0 w' ∧ Kept [] w W0 := by
  obtain ⟨i0, hi, hz0, hz1, hz2⟩ := info_parts info_byte
  go_enter Tryd.func60, Tryd.ntmps60
  obtain ⟨W0, hW0⟩ : ∃ W0 : World, W0 = w.alloc (.cells #[.int .i64 3, .string ⟨#[]⟩, .int .i64 0, .slice a 0 c] 31) := ⟨_, rfl⟩
  have hk0 : Kept [] w W0 := by rw [hW0]; exact (Kept.refl [] w).alloc _
  have HB0 : Hid (Blk W0 w.heap.size [.int .i64 3, .string ⟨#[]⟩, .int .i64 0, .slice a 0 c] 31) := by rw [hW0]; exact Blk.new _ _ _
  have hb0 : Lib.OwnBuf W0.heap.size 5 (.slice none 0 0) 0 [] W0 W0 := ⟨⟨rfl, .inl ⟨rfl, rfl⟩⟩, Below.refl _ _, Nat.le_refl _⟩
  obtain ⟨⟨z0, z1, z2, z3⟩, _⟩ := HB0.out.four
  go_wp2_with fail
  rw [← hW0]
  clear hW0
  refine Calls.mono (appendInt3 _ hb0 (by decide)) ?_
  rintro e w1 ⟨v1, rfl, hb1⟩
  clear z0 z1 z2 z3
  have hk1 : Kept [] W0 w1 := Kept.ofBelow hb1.2.1; obtain ⟨⟨z0, z1, z2, z3⟩, _⟩ := (HB0.out.kept hk1 (by simp)).four
  go_wp2_with (first
    | (refine Lib.wpList_append_byte rfl (.tmp 11) (.tmp 12) 106 rfl W0.heap.size 5 i0 Tryd.underlying106 hi hz0 hz1 hz2 v1 1 _ rfl W0 w1 44 hb1 rfl (by decide) ?_; intro v2 w2 hb2; have hk2 : Kept [] W0 w2 := Kept.ofBelow hb2.2.1; obtain ⟨⟨z0, z1, z2, z3⟩, _⟩ := (HB0.out.kept hk2 (by simp)).four)
    | (go_at_call 69; refine Calls.mono (appendQuoteNil _ hb2 (by decide)) ?_; rintro e w3 ⟨v3, rfl, hb3⟩; have hk3 : Kept [] W0 w3 := Kept.ofBelow hb3.2.1; obtain ⟨⟨z0, z1, z2, z3⟩, _⟩ := (HB0.out.kept hk3 (by simp)).four)
    | (go_at_call 68; refine Calls.mono (appendInt0 _ hb3 (by decide)) ?_; rintro e w4 ⟨v4, rfl, hb4⟩; have hk4 : Kept [] W0 w4 := Kept.ofBelow hb4.2.1; obtain ⟨⟨z0, z1, z2, z3⟩, _⟩ := (HB0.out.kept hk4 (by simp)).four)
    | (refine Lib.wpList_append_byte rfl (.tmp 22) (.tmp 23) 106 rfl W0.heap.size 5 i0 Tryd.underlying106 hi hz0 hz1 hz2 v4 5 _ rfl W0 w4 40 hb4 rfl (by decide) ?_; intro v5 w5 hb5; have hk5 : Kept [] W0 w5 := Kept.ofBelow hb5.2.1; obtain ⟨⟨z0, z1, z2, z3⟩, _⟩ := (HB0.out.kept hk5 (by simp)).four))
  go_loop [0, 28] (fun u i => u = v5 ∧ i = .int .i64 0) (fun _ _ => 0)
  case atStart => exact ⟨rfl, rfl⟩
  case round =>
    obtain ⟨rfl, rfl⟩ := hrel
    go_wp2_with (first | (refine Lib.wpList_append_byte rfl (.tmp 36) (.tmp 37) 106 rfl W0.heap.size 5 i0 Tryd.underlying106 hi hz0 hz1 hz2 _ 6 _ rfl W0 w5 41 hb5 rfl (by decide) ?_; intro v6 w6 hb6; have hk6 : Kept [] W0 w6 := Kept.ofBelow hb6.2.1; obtain ⟨⟨z0, z1, z2, z3⟩, _⟩ := (HB0.out.kept hk6 (by simp)).four))
    go_ret
    exact ⟨W0, v6, by first | rfl | simp, hb6, hk0⟩

def keyNums : List Int := [51, 44, 34, 34, 48, 40, 41]
theorem key_shape {B : Nat} {v : Value} {W0 w : World} (h : Lib.OwnBuf B 5 v 7 keyCells W0 w) : ∃ g cap, v = .slice (some ⟨g, 0, none⟩) 7 cap ∧ ∀ i, i < 7 → w.cell? ⟨g, 0 + i, none⟩ = some (.int .u8 (keyNums.getD i 0)) := by
  rcases h.1.2 with ⟨_, h2⟩ | ⟨g, cap, cur, q, rfl, hb, hg, h0, h3, h4, h5, h6⟩
  · simp at h2
  · refine ⟨g, cap, rfl, fun i hi => ?_⟩
    have hc : ∀ j u, keyCells[j]? = some u → w.cell? ⟨g, 0 + j, none⟩ = some u := by
      intro j u hj
      rw [← h6, List.getElem?_take] at hj
      split at hj
      · rw [Nat.zero_add]
        simp [World.cell?, hg]
        simpa using hj
      · cases hj
    refine hc i _ ?_
    match i, hi with
    | 0, _ => rfl
    | 1, _ => rfl
    | 2, _ => rfl
    | 3, _ => rfl
    | 4, _ => rfl
    | 5, _ => rfl
    | 6, _ => rfl
def key0 : ByteArray := strOfNums keyNums
set_option maxRecDepth 100000 in
theorem typeKey (a : Option Addr) (c : Nat) (w : World) :
    Calls Tryd.prog 46 #[.agg #[.int .i64 3, .string ⟨#[]⟩, .int .i64 0, .slice a 0 c]] w fun e w' => e = .returned (.string key0) ∧ Kept [] w w' := by
  go_enter Tryd.func46, Tryd.ntmps46
  go_wp2_with fail
  refine Calls.mono (keyBytes a c _) ?_
  rintro e w1 ⟨W0, v1, rfl, hb1, hk0⟩
  have hk1 : Kept [] w w1 := (((Kept.refl [] w).alloc _).trans hk0).trans (Kept.ofBelow hb1.2.1)
  obtain ⟨g, cap, rfl, hcells⟩ := key_shape hb1
  have hcv := run_convert_bytes_arg (P := Tryd.prog) w1 106 5 Tryd.underlying106 Tryd.underlying5 g 0 7 cap keyNums rfl hcells 9 Tryd.underlying9
  go_wp2
  go_ret
  exact ⟨rfl, hk1⟩
end Go.Proofs.YtkldomkooleecaaDoor
