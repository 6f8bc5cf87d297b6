/- A list of integers that is read from its front and grows at its end ('l = l[1:]', 'l = append(l, x)'). -/
import Derived.Test.YtkldomkooleecaaGreatDoorBase
import Derived.ArgAppend
namespace Go.Proofs.YtkldomkooleecaaGreatDoor
open Go.RowKit

structure QI (w : World) (base g off cap : Nat) (xs : List Int) : Prop where
  lo : base ≤ g
  lt : g < w.heap.size
  le : xs.length ≤ cap
  max : cap ≤ maxLen
  here : ∀ (j : Nat) (x : Int), xs[j]? = some x → w.cell? ⟨g, off + j, none⟩ = some (.int .i64 x)
  room : ∀ j, xs.length ≤ j → j < cap → (w.cell? ⟨g, off + j, none⟩).isSome = true ∧ w.frozen? ⟨g, off + j, none⟩ = false
theorem QI.kept {w w' : World} {base g off cap : Nat} {xs : List Int} {M : List Nat} (h : QI w base g off cap xs) (k : Kept M w w') (hn : g ∉ M) : QI w' base g off cap xs := by
  have hb := k.block g h.lt hn
  refine ⟨h.lo, Nat.lt_of_lt_of_le h.lt k.size, h.le, h.max, fun j x hx => k.cell' (h.here j x hx) hn, fun j h1 h2 => ?_⟩
  obtain ⟨q1, q2⟩ := h.room j h1 h2
  exact ⟨by rw [World.cell?_of_block (a := ⟨g, off + j, none⟩) hb]; exact q1, (World.frozen?_of_block (a := ⟨g, off + j, none⟩) hb).trans q2⟩
theorem QI.tail {w : World} {base g off cap : Nat} {x : Int} {xs : List Int} (h : QI w base g off (cap + 1) (x :: xs)) : QI w base g (off + 1) cap xs := by
  have hl := h.le
  have hm := h.max
  simp only [List.length_cons] at hl
  refine ⟨h.lo, h.lt, by omega, by omega, fun j y hy => ?_, fun j h1 h2 => ?_⟩
  · have := h.here (j + 1) y (by simpa using hy)
    rw [show off + 1 + j = off + (j + 1) by omega]
    exact this
  · have := h.room (j + 1) (by simp only [List.length_cons]; omega) (by omega)
    rw [show off + 1 + j = off + (j + 1) by omega]
    exact this
theorem QI.one {w : World} {base g : Nat} {x : Int} (h : Blk w g [.int .i64 x] 3) (hb : base ≤ g) : QI w base g 0 1 [x] := by
  refine ⟨hb, h.lt, Nat.le_refl _, by decide, fun j y hy => ?_, fun j h1 h2 => ?_⟩
  · match j, hy with
    | 0, hy => simp at hy; subst hy; exact h.cell 0 _ rfl
    | j + 1, hy => simp at hy
  · simp at h1; omega
/-- One more at the end. -/
theorem wpList_append_q {P : Program} {w : World} {ops : Array Oper} {rest : List Oper} {o : Oper} {a : Act} {Q : Exit → Act → World → Prop}
    (hg : o.guard = none) (s x : Operand) (t : TypeId) (hop : o.op = Op.call { callee := Callee.builtin Builtin.append, args := #[s, x], argTypes := #[t, t] })
    (i : TypeInfo) (h1 : P.underlying t = some (.slice 3)) (h2 : P.info? 3 = some i) (h3 : i.zero = some (.int .i64 0)) (h4 : i.size = 1) (h5 : i.bytes = 8)
    {base g off cap h : Nat} {xs : List Int} {y : Int} (hq : QI w base g off cap xs) (hs : a.eval s = .slice (some ⟨g, off, none⟩) xs.length cap)
    (hx : a.eval x = .slice (some ⟨h, 0, none⟩) 1 1) (hc : w.cell? ⟨h, 0, none⟩ = some (.int .i64 y)) (hl : xs.length ≤ 1000000) (hbw : base ≤ w.heap.size)
    (hK : ∀ g' off' cap' w', QI w' base g' off' cap' (xs ++ [y]) → Kept [g] w w' → (g' = g ∨ w.heap.size ≤ g') → wpList P ops Q rest (a.put o.dst (.slice (some ⟨g', off', none⟩) (xs.length + 1) cap')) w') :
    wpList P ops Q (o :: rest) a w := by
  refine wpList_append_arg w hg s x t hop 3 i (.int .i64 0) 1 8 h1 h2 h3 h4 h5 rfl (by decide) g off xs.length cap (xs.map (.int .i64)) hs (by simp) (fun j u hu => ?_) ⟨h, 0, none⟩ 1 1 [.int .i64 y] hx rfl (fun j u hu => ?_) (by simp [Value.oneCell'])
    (fun hr j hj => ?_) (by unfold maxLen; omega) (by omega) (fun hr => ?_) (fun hr v' w' ho hgr => ?_)
  · rw [List.getElem?_map] at hu
    obtain ⟨z, hz, rfl⟩ := Option.map_eq_some_iff.1 hu
    exact hq.here j z hz
  · match j, hu with
    | 0, hu =>
      simp at hu; subst hu
      rw [show (⟨h, 0, none⟩ : Addr).add 0 = ⟨h, 0, none⟩ by rw [Addr.add_lit]]
      exact hc
    | j + 1, hu => simp at hu
  · simp at hj
    subst hj
    have := hq.room xs.length (Nat.le_refl _) (by omega)
    rw [Nat.mul_one, Nat.add_zero]
    exact this
  · rw [Nat.mul_one]
    have hr0 := hq.room xs.length (Nat.le_refl _) (by omega)
    refine hK g off cap _ ⟨hq.lo, by simpa [World.setCells] using hq.lt, by simp; omega, hq.max, fun j z hz => ?_, fun j q1 q2 => ?_⟩ ?_ (.inl rfl)
    · rcases Nat.lt_or_ge j xs.length with hj | hj
      · rw [List.getElem?_append_left hj] at hz
        rw [World.cell?_setCells_out _ _ _ _ _ (fun _ _ => .inl (by simp; omega))]
        exact hq.here j z hz
      · rw [List.getElem?_append_right hj] at hz
        rcases Nat.eq_or_lt_of_le hj with e | e
        · rw [← e, Nat.sub_self] at hz
          simp at hz
          subst hz
          have := World.cell?_setCells_in g [.int .i64 y] (off + xs.length) w (fun k hk => by simp at hk; subst hk; rw [Nat.add_zero]; exact hr0.1) 0 (by simp)
          rw [Nat.add_zero] at this
          rw [← e]
          exact this
        · rw [List.getElem?_eq_none (by simp; omega)] at hz
          cases hz
    · simp only [List.length_append, List.length_singleton] at q1
      obtain ⟨p1, p2⟩ := hq.room j (by omega) q2
      rw [World.cell?_setCells_out _ _ _ _ _ (fun _ _ => .inr (by simp; omega)), World.frozen?_setCells]
      exact ⟨p1, p2⟩
    · exact (Kept.refl [g] w).setCell (p := ⟨g, off + xs.length, none⟩) (by simp) _
  · rcases ho.2 with ⟨_, h0⟩ | ⟨g', cap', cur, rfl, hb, hgg, q1, q2, q3, q4⟩
    · omega
    · have hk : Kept [] w w' := Kept.ofGrown hgr (by simp)
      refine hK g' 0 cap' w' ⟨by omega, (Array.getElem?_eq_some_iff.1 hgg).1, by simpa using q1, q2, fun j z hz => ?_, fun j p1 p2 => ?_⟩ hk.nil (.inr hb)
      · have := ho.cells (g := g') rfl j (.int .i64 z) (by
          rw [show xs.map (Value.int .i64) ++ [Value.int .i64 y] = (xs ++ [y]).map (Value.int .i64) by simp, List.getElem?_map, hz]
          rfl)
        rw [Addr.add_lit] at this
        exact this
      · rw [Nat.zero_add, cell_of_row w' g' j cur _ (0, 0) hgg]
        have hj : j < cur.size := by omega
        exact ⟨by simp [hj], by simp [World.frozen?, hgg]⟩
/-- .. its length by name. -/
theorem wpList_append_qn {P : Program} {w : World} {ops : Array Oper} {rest : List Oper} {o : Oper} {a : Act} {Q : Exit → Act → World → Prop}
    (hg : o.guard = none) (s x : Operand) (t : TypeId) (hop : o.op = Op.call { callee := Callee.builtin Builtin.append, args := #[s, x], argTypes := #[t, t] })
    (i : TypeInfo) (h1 : P.underlying t = some (.slice 3)) (h2 : P.info? 3 = some i) (h3 : i.zero = some (.int .i64 0)) (h4 : i.size = 1) (h5 : i.bytes = 8)
    {base g off cap h n : Nat} {xs : List Int} {y : Int} (hq : QI w base g off cap xs) (hn : n = xs.length) (hs : a.eval s = .slice (some ⟨g, off, none⟩) n cap)
    (hx : a.eval x = .slice (some ⟨h, 0, none⟩) 1 1) (hc : w.cell? ⟨h, 0, none⟩ = some (.int .i64 y)) (hl : n ≤ 1000000) (hbw : base ≤ w.heap.size)
    (hK : ∀ g' off' cap' w', QI w' base g' off' cap' (xs ++ [y]) → Kept [g] w w' → (g' = g ∨ w.heap.size ≤ g') → wpList P ops Q rest (a.put o.dst (.slice (some ⟨g', off', none⟩) (n + 1) cap')) w') :
    wpList P ops Q (o :: rest) a w := by
  subst hn
  exact wpList_append_q hg s x t hop i h1 h2 h3 h4 h5 hq hs hx hc hl hbw hK
end Go.Proofs.YtkldomkooleecaaGreatDoor
