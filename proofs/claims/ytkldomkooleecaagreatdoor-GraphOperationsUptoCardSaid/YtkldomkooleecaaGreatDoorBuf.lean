/- A buffer of bytes that grows: what appends do to it, with a frame that reaches above it; utf8.AppendRune. -/
import Derived.Test.YtkldomkooleecaaGreatDoorOwnT
import Derived.Lib.BufSteps
import Derived.Lib.OthersKept
import Derived.Lib.QuoteLoop
import Derived.Lib.AppendStr
import Derived.LoopN
import Derived.Laws.CopyOwn
import Derived.Laws.MakeOwn
namespace Go.Proofs.YtkldomkooleecaaGreatDoor
open Go.RowKit

/-- v holds the n cells xs in a block from B on; since W0 nothing has turned below B, since W1 no block that is no row of bytes. -/
structure OB (B : Nat) (v : Value) (n : Nat) (xs : List Value) (W0 W1 w : World) : Prop where
  row : w.ownsRow B 5 1 v n xs
  bel : Below B W0 w
  le : B ≤ w.heap.size
  oth : Lib.OthersKept 5 none W1 w
  one : ∀ u ∈ xs, u.oneCell' = true
namespace OB
variable {B n n' : Nat} {v v' : Value} {xs xs' : List Value} {W0 W1 w w' : World}
theorem grown (h : OB B v n xs W0 W1 w) (ho : w'.ownsRow B 5 1 v' n' xs') (hg : w.grownBy w' v.ownBlock) (ho1 : ∀ u ∈ xs', u.oneCell' = true) : OB B v' n' xs' W0 W1 w' :=
  ⟨ho, h.bel.grown hg h.le (fun k hk => (h.row.lt k hk).1), Nat.le_trans h.le hg.size, h.oth.grown hg (fun g hg' => by
    rcases h.row.2 with ⟨rfl, _⟩ | ⟨g', cap, cur, rfl, _, hc, _⟩
    · simp [Value.ownBlock] at hg'
    · simp [Value.ownBlock] at hg'
      subst hg'
      exact ⟨cur, _, hc⟩), ho1⟩
theorem alloc (h : OB B v n xs W0 W1 w) (o : Obj) : OB B v n xs W0 W1 (w.alloc o) := ⟨h.row.alloc o, h.bel.alloc h.le o, by simp; have := h.le; omega, h.oth.alloc o, h.one⟩
theorem drewN (h : OB B v n xs W0 W1 w) (q : Nat) : OB B v n xs W0 W1 (w.drewN q) := ⟨h.row, ⟨h.bel.os, h.bel.tape, h.bel.output, h.bel.size, h.bel.block⟩, h.le, h.oth, h.one⟩
/-- A callee that leaves every block. -/
theorem below (h : OB B v n xs W0 W1 w) (k : Below w.heap.size w w') : OB B v n xs W0 W1 w' := by
  refine ⟨⟨h.row.1, ?_⟩, ⟨k.os.trans h.bel.os, k.tape.trans h.bel.tape, k.output.trans h.bel.output, Nat.le_trans h.bel.size k.size, fun i hi => (k.block i (by have := h.le; omega)).trans (h.bel.block i hi)⟩, Nat.le_trans h.le k.size, fun i o hi hn ho => ?_, h.one⟩
  · rcases h.row.2 with h1 | ⟨g, cap, cur, h1, h2, h3, h4⟩
    · exact .inl h1
    · exact .inr ⟨g, cap, cur, h1, h2, (k.block g (Array.getElem?_eq_some_iff.1 h3).1).trans h3, h4⟩
  · have := h.oth i o hi hn ho
    exact (k.block i (Array.getElem?_eq_some_iff.1 this).1).trans this
theorem shape (h : OB B v n xs W0 W1 w) : ∃ a c, v = .slice a n c ∧ n ≤ c ∧ c ≤ 9223372036854775807 := by
  rcases h.row.2 with ⟨rfl, h2⟩ | ⟨g, cap, cur, rfl, hb, hg, h3, h4, _⟩
  · rw [h2]; exact ⟨none, 0, rfl, Nat.le_refl _, by simp⟩
  · exact ⟨_, _, rfl, h3, by simpa [maxLen] using h4⟩
end OB

theorem info_byte : (Tryz.prog.info? 5).map (fun i => (i.zero, i.size, i.bytes)) = some (some (.int .u8 0), 1, 1) := by kernel_rfl

section
variable {ops : Array Oper} {rest : List Oper} {o : Oper} {a : Act} {Q : Exit → Act → World → Prop}
/-- 'append(b, x..)': the new cells lie in the block that was made last. -/
theorem wpList_ob (hgd : o.guard = none) (s x : Operand) (ho : o.op = .call { callee := .builtin .append, args := #[s, x], argTypes := #[105, 105] })
    {B n : Nat} {v : Value} {xs : List Value} (hs : a.eval s = v) {W0 W1 w0 : World} (qs : List Value) (hq : ∀ u ∈ qs, u.oneCell' = true) (hb : OB B v n xs W0 W1 w0)
    (hx : a.eval x = .slice (some ⟨w0.heap.size, 0, none⟩) qs.length qs.length) (hlen : n + qs.length ≤ 140737488355328)
    (h : ∀ v' w', OB B v' (n + qs.length) (xs ++ qs) W0 W1 w' → wpList Tryz.prog ops Q rest (a.put o.dst v') w') : wpList Tryz.prog ops Q (o :: rest) a (w0.alloc (.cells qs.toArray 5)) := by
  obtain ⟨i, hi, hz, h1, h2⟩ := info_parts info_byte
  have hb' := hb.alloc (.cells qs.toArray 5)
  refine wpList_append_own_at _ hgd s x 105 ho B 5 i (.int .u8 0) 1 1 Tryz.underlying105 hi hz h1 h2 rfl (by decide) v n xs hs hb'.row ⟨w0.heap.size, 0, none⟩ _ _ qs hx (by simp) ?_ hq (by unfold maxLen; omega) (by omega) hb'.le ?_
  · intro j u hj
    rw [Addr.add_lit]
    simp [hj]
  · intro v' w' ho' hg _ _
    exact h v' w' (hb'.grown ho' hg (fun u hu => (List.mem_append.1 hu).elim (hb.one u) (hq u)))
theorem wpList_ob_text {w : World} (hgd : o.guard = none) (s x : Operand) (ho : o.op = .call { callee := .builtin .append, args := #[s, x], argTypes := #[105, 9] })
    {B n : Nat} {v : Value} {xs : List Value} (hs : a.eval s = v) {W0 W1 : World} (hb : OB B v n xs W0 W1 w) (t : ByteArray) (hx : a.eval x = .string t) (hlen : n + t.size ≤ 140737488355328)
    (h : ∀ v' w', OB B v' (n + t.size) (xs ++ Lib.strCells t) W0 W1 w' → wpList Tryz.prog ops Q rest (a.put o.dst v') w') : wpList Tryz.prog ops Q (o :: rest) a w := by
  obtain ⟨i, hi, hz, h1, h2⟩ := info_parts info_byte
  refine Lib.wpList_append_own_string w hgd s x 105 9 ho B 5 i Tryz.underlying105 Tryz.underlying9 hi hz h1 h2 v n xs hs hb.row t hx (by unfold maxLen; omega) hlen hb.le ?_
  intro v' w' ho' hg _
  exact h v' w' (hb.grown ho' hg (fun u hu => (List.mem_append.1 hu).elim (hb.one u) (fun hu => by
    unfold Lib.strCells at hu
    obtain ⟨x, _, rfl⟩ := List.mem_map.1 hu
    rfl)))
/-- 'nBuf := make(..); copy(nBuf, b)': the new row lies in the block that was made last. -/
theorem wpList_ob_copy (hgd : o.guard = none) (d s : Operand) (ho : o.op = .call { callee := .builtin .copy, args := #[d, s], argTypes := #[105, 105] })
    {B n : Nat} {v : Value} {xs : List Value} {W0 W1 w0 : World} (hb : OB B v n xs W0 W1 w0) (M : List Value) (C : Nat) (hM : M.length = C) (hn : n ≤ C) (hC : C ≤ maxLen)
    (hd : a.eval d = .slice (some ⟨w0.heap.size, 0, none⟩) n C) (hs : a.eval s = v)
    (h : ∀ u w', OB B (.slice (some ⟨w0.heap.size, 0, none⟩) n C) n xs W0 W1 w' → wpList Tryz.prog ops Q rest (a.put o.dst u) w') : wpList Tryz.prog ops Q (o :: rest) a (w0.alloc (.cells M.toArray 5)) := by
  obtain ⟨i, hi, hz, h1, h2⟩ := info_parts info_byte
  have hsz : (Tryz.prog.info? 5).map (·.size) = some 1 := by simp [hi, h1]
  have hxl : xs.length = n := by have := hb.row.1; omega
  have hb' := hb.alloc (.cells M.toArray 5)
  have hnew : (w0.alloc (.cells M.toArray 5)).heap[w0.heap.size]? = some (.cells M.toArray 5 (0, 0)) := halloc_new _ _ _ rfl
  by_cases h0 : n = 0
  · subst h0
    have hxs : xs = [] := List.eq_nil_of_length_eq_zero hxl
    subst hxs
    obtain ⟨va, vc, hv, _⟩ := hb.shape
    refine wpList_copy_nothing hgd d s 105 105 ho 5 Tryz.underlying105 hsz _ va 0 C 0 vc hd (hs.trans hv) (by simp) ?_
    exact h _ _ ⟨⟨rfl, .inr ⟨_, C, M.toArray, rfl, hb.le, hnew, hn, hC, by simp [hM], by simp⟩⟩, hb'.bel, hb'.le, hb'.oth, by simp⟩
  · rcases hb.row.2 with ⟨_, hz0⟩ | ⟨g, cap, cur, hv, hBg, hg, h3, h4, h5, h6⟩
    · exact absurd hz0 h0
    · have hcell := hb'.row.cells (g := g) (by rw [hv]; rfl)
      refine wpList_copy_own hgd d s 105 105 ho 5 Tryz.underlying105 hsz w0.heap.size 0 n C ⟨g, 0, none⟩ n cap hd (hs.trans hv) M.toArray 5 hnew xs (by rw [hxl]; simp) (fun j u hj => hcell j u hj) (by simp; omega) hb.one ?_
      refine h _ _ ⟨⟨by omega, .inr ⟨_, C, _, rfl, hb.le, setRow_heap _ _ _ _ _ _ hnew, hn, hC, by simp; omega, by simp [hxl]⟩⟩, ?_, ?_, ?_, hb.one⟩
      · exact below_setRow hb'.bel hb.le _
      · have := hb'.le
        simp [World.setRow] at this ⊢
        omega
      · intro k x hk hn' hx
        have := hb.oth k x hk hn' hx
        have hlt := (Array.getElem?_eq_some_iff.1 this).1
        rw [setRow_other _ _ _ _ (by omega), halloc_old _ _ _ hlt]
        exact this
end

set_option maxRecDepth 100000 in
set_option maxHeartbeats 1600000 in
/-- utf8.appendRuneNonASCII at a valid rune. -/
theorem runeMore {B n : Nat} {v : Value} {xs : List Value} {W0 W1 : World} (r : Int) (w : World) (hb : OB B v n xs W0 W1 w) (hn : n + 4 ≤ 140737488355328) (h0 : 128 ≤ r) (h1 : r < 55296 ∨ (57343 < r ∧ r ≤ 1114111)) :
    Calls Tryz.prog 128 #[v, .int .i32 r] w fun e w' => ∃ v', e = .returned v' ∧ OB B v' (n + (Lib.encodeRuneZ r).length) (xs ++ Lib.intCells (Lib.encodeRuneZ r)) W0 W1 w' := by
  by_cases c1 : r ≤ 2047
  · rw [Lib.encodeRuneZ_two (by omega) c1]
    go_enter Tryz.func128, Tryz.ntmps128
    go_wp2_with (refine wpList_ob rfl _ _ rfl rfl [.int .u8 (192 + r / 64), .int .u8 (128 + r % 64)] (by simp [Value.oneCell']) hb rfl (by simp; omega) ?_; intro v1 w1 hb1)
    go_ret
    exact ⟨_, rfl, hb1⟩
  by_cases c2 : r < 55296
  · rw [Lib.encodeRuneZ_three (.inl ⟨by omega, c2⟩)]
    go_enter Tryz.func128, Tryz.ntmps128
    go_wp2_with (refine wpList_ob rfl _ _ rfl rfl [.int .u8 (224 + r / 4096), .int .u8 (128 + r / 64 % 64), .int .u8 (128 + r % 64)] (by simp [Value.oneCell']) hb rfl (by simp; omega) ?_; intro v1 w1 hb1)
    go_ret
    exact ⟨_, rfl, hb1⟩
  by_cases c3 : r ≤ 65535
  · rw [Lib.encodeRuneZ_three (.inr ⟨by omega, c3⟩)]
    have c4 : 57343 < r := by omega
    go_enter Tryz.func128, Tryz.ntmps128
    go_wp2_with (refine wpList_ob rfl _ _ rfl rfl [.int .u8 (224 + r / 4096), .int .u8 (128 + r / 64 % 64), .int .u8 (128 + r % 64)] (by simp [Value.oneCell']) hb rfl (by simp; omega) ?_; intro v1 w1 hb1)
    go_ret
    exact ⟨_, rfl, hb1⟩
  · have c4 : r ≤ 1114111 := by omega
    rw [Lib.encodeRuneZ_four (by omega) c4]
    go_enter Tryz.func128, Tryz.ntmps128
    go_wp2_with (refine wpList_ob rfl _ _ rfl rfl [.int .u8 (240 + r / 262144), .int .u8 (128 + r / 4096 % 64), .int .u8 (128 + r / 64 % 64), .int .u8 (128 + r % 64)] (by simp [Value.oneCell']) hb rfl (by simp; omega) ?_; intro v1 w1 hb1)
    go_ret
    exact ⟨_, rfl, hb1⟩
set_option maxRecDepth 100000 in
set_option maxHeartbeats 1600000 in
theorem appendRune {B n : Nat} {v : Value} {xs : List Value} {W0 W1 : World} (r : Int) (w : World) (hb : OB B v n xs W0 W1 w) (hn : n + 4 ≤ 140737488355328) (h0 : 0 ≤ r) (h1 : r < 55296 ∨ (57343 < r ∧ r ≤ 1114111)) :
    Calls Tryz.prog 119 #[v, .int .i32 r] w fun e w' => ∃ v', e = .returned v' ∧ OB B v' (n + (Lib.encodeRuneZ r).length) (xs ++ Lib.intCells (Lib.encodeRuneZ r)) W0 W1 w' := by
  by_cases c1 : r ≤ 127
  · rw [Lib.encodeRuneZ_one h0 c1]
    go_enter Tryz.func119, Tryz.ntmps119
    go_wp2_with (refine wpList_ob rfl _ _ rfl rfl [.int .u8 r] (by simp [Value.oneCell']) hb rfl (by simp; omega) ?_; intro v1 w1 hb1)
    go_ret
    exact ⟨_, rfl, hb1⟩
  · have h2 : r ≤ 1114111 := by omega
    have h3 : 128 ≤ r := by omega
    have HB := Lib.hid hb
    have H1 := Lib.hid h1
    clear hb h1
    go_enter Tryz.func119, Tryz.ntmps119
    go_wp2_with (go_at_call 128; refine Calls.mono (runeMore r _ HB.out hn h3 H1.out) ?_; rintro e w1 ⟨v1, rfl, hb1⟩)
    go_ret
    exact ⟨_, rfl, hb1⟩
end Go.Proofs.YtkldomkooleecaaGreatDoor
