/- Walks: strconv.AppendQuote, onto a buffer. -/
import Derived.Test.YtkldomkooleecaaGreatDoorBuf
import Derived.Test.YtkldomkooleecaaGreatDoorStrc
namespace Go.Proofs.YtkldomkooleecaaGreatDoor
open Go.RowKit

/-- The four tables of strconv.IsPrint, and utf8's two. -/
def PT (T : Lib.PrintTabs) (w : World) : Prop := Lib.PrintTabsAt 3 4 5 6 T w
def UT (w : World) : Prop := Lib.Utf8Tabs 1 2 w

section
variable {T : Lib.PrintTabs} {B n : Nat} {v : Value} {xs : List Value} {W0 W1 : World}
theorem isPrint (r : Int) (w : World) (h0 : 0 ≤ r) (h1 : r ≤ 2147483647) (hT : PT T w) : Calls Tryz.prog 117 #[.int .i32 r] w fun e w' => e = .returned (.bool (Lib.isPrintR T r)) ∧ ∃ q, w' = w.drewN q :=
  Any.strconv_IsPrint { Tryz.lays289 with } T r w (by omega) h1 hT

set_option maxRecDepth 100000 in
set_option maxHeartbeats 1600000 in
theorem escPlain (r : Int) (w : World) (hb : OB B v n xs W0 W1 w) (hn : n + 10 ≤ 140737488355328) (hq : r = 34 ∨ r = 92) :
    Calls Tryz.prog 105 #[v, .int .i32 r, .int .u8 34, .bool false, .bool false] w fun e w' => ∃ v', e = .returned v' ∧ OB B v' (n + (Lib.escRune T r).length) (xs ++ Lib.intCells (Lib.escRune T r)) W0 W1 w' := by
  have hE : Lib.escRune T r = [92, r] := by simp [Lib.escRune, hq]
  have hw8 : IntKind.u8.wrap r = r := by rcases hq with rfl | rfl <;> rfl
  rw [hE]
  rcases hq with rfl | rfl
  all_goals
    go_enter Tryz.func105, Tryz.ntmps105
    go_wp2_with (refine wpList_ob rfl _ _ rfl rfl [.int .u8 _] (by simp [Value.oneCell']) (by assumption) rfl (by simp; omega) ?_; intro _ _ hb)
    go_ret
    exact ⟨_, rfl, by simpa [Lib.intCells, List.append_assoc] using hb⟩

set_option maxRecDepth 100000 in
set_option maxHeartbeats 1600000 in
theorem escSeen (r : Int) (w : World) (hb : OB B v n xs W0 W1 w) (hn : n + 10 ≤ 140737488355328) (hT : PT T w) (h0 : 0 ≤ r) (hv : Lib.validRune r = true) (hq1 : r ≠ 34) (hq2 : r ≠ 92) (hp : Lib.isPrintR T r = true) :
    Calls Tryz.prog 105 #[v, .int .i32 r, .int .u8 34, .bool false, .bool false] w fun e w' => ∃ v', e = .returned v' ∧ OB B v' (n + (Lib.escRune T r).length) (xs ++ Lib.intCells (Lib.escRune T r)) W0 W1 w' := by
  have hE : Lib.escRune T r = Lib.encodeRuneZ r := by simp [Lib.escRune, hq1, hq2, hp]
  have hvr : r < 55296 ∨ (57343 < r ∧ r ≤ 1114111) := by simp [Lib.validRune] at hv; omega
  have cP := isPrint (T := T) r w h0 (by omega) hT
  rw [hp] at cP
  rw [hE]
  have HB := Lib.hid hb
  have HV := Lib.hid hvr
  clear hb hT hp hv hE hvr
  go_enter Tryz.func105, Tryz.ntmps105
  go_wp2_with (first
    | (go_at_call 117; refine Calls.mono cP ?_; rintro e w1 ⟨rfl, q1, rfl⟩)
    | (go_at_call 119; refine Calls.mono (appendRune r _ (HB.out.drewN _) (by omega) h0 HV.out) ?_; rintro e w2 ⟨v2, rfl, hb2⟩))
  go_ret
  exact ⟨_, rfl, hb2⟩

set_option maxRecDepth 100000 in
set_option maxHeartbeats 1600000 in
theorem escNamed (r : Int) (w : World) (hb : OB B v n xs W0 W1 w) (hn : n + 10 ≤ 140737488355328) (hT : PT T w) (hr : r = 7 ∨ r = 8 ∨ r = 12 ∨ r = 10 ∨ r = 13 ∨ r = 9 ∨ r = 11) :
    Calls Tryz.prog 105 #[v, .int .i32 r, .int .u8 34, .bool false, .bool false] w fun e w' => ∃ v', e = .returned v' ∧ OB B v' (n + (Lib.escRune T r).length) (xs ++ Lib.intCells (Lib.escRune T r)) W0 W1 w' := by
  have cP := isPrint (T := T) r w (by omega) (by omega) hT
  have hp : Lib.isPrintR T r = false := by rcases hr with rfl | rfl | rfl | rfl | rfl | rfl | rfl <;> rfl
  rw [hp] at cP
  have hbq : ∀ q, OB B v n xs W0 W1 (w.drewN q) := hb.drewN
  clear hT hp hb
  rcases hr with rfl | rfl | rfl | rfl | rfl | rfl | rfl
  all_goals
    go_enter Tryz.func105, Tryz.ntmps105
    go_wp2_with (first
      | (go_at_call 117; refine Calls.mono cP ?_; rintro e w1 ⟨rfl, q1, rfl⟩; have hb := hbq q1)
      | (refine wpList_ob_text rfl _ _ rfl rfl (by assumption) _ rfl (by simp [ByteArray.size]; omega) ?_; intro _ _ hb))
    go_ret
    exact ⟨_, rfl, by simpa [Lib.intCells, Lib.escRune, Lib.isPrintR, Lib.isPrintLatin, Lib.strCells, ByteArray.size] using hb⟩
end
end Go.Proofs.YtkldomkooleecaaGreatDoor
