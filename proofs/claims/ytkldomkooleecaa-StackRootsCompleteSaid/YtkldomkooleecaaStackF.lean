/- Walks: Replace of a stack of frames; frames that are not pushed. -/
import Derived.Test.YtkldomkooleecaaStackE
import Derived.Laws.OwnMore
namespace Go.Proofs.Ytkldomkooleecaa
open Go.RowKit

theorem set5 (p : List Value) (n : Nat) (hn : p.length = n) (r : List Value) (hr : r.length = 5) (a0 a1 a2 a3 a4 : Value) :
    ((((((p ++ r).set n a0).set (n + 1) a1).set (n + 2) a2).set (n + 3) a3).set (n + 4) a4) = p ++ [a0, a1, a2, a3, a4] := by
  subst hn
  match r, hr with
  | [b0, b1, b2, b3, b4], _ =>
    rw [List.set_append_right _ _ (by omega), List.set_append_right _ _ (by omega), List.set_append_right _ _ (by omega), List.set_append_right _ _ (by omega), List.set_append_right _ _ (by omega)]
    simp [Nat.add_sub_cancel_left]

theorem flat_len {size : Nat} {rs : List (List Value)} (h : ∀ r ∈ rs, r.length = size) : rs.flatten.length = rs.length * size := by
  rw [List.length_flatten, show rs.map List.length = List.replicate rs.length size from List.eq_replicate_iff.2 ⟨by simp, fun z hz => by obtain ⟨q, hq, rfl⟩ := List.mem_map.1 hz; exact h q hq⟩]
  simp [Nat.mul_comm]

theorem Own.last5 {w : World} {base g n cap : Nat} {e : TypeId} {rs : List (List Value)} {r : List Value} (h : Own w base e 5 (.slice (some ⟨g, 0, none⟩) (n + 1) cap) (rs ++ [r])) (hn : rs.length = n) (a0 a1 a2 a3 a4 : Value)
    (h1 : ∀ u ∈ [a0, a1, a2, a3, a4], u.oneCell' = true) :
    Own (((((w.setCell ⟨g, n * 5, none⟩ a0).setCell ⟨g, n * 5 + 1, none⟩ a1).setCell ⟨g, n * 5 + 2, none⟩ a2).setCell ⟨g, n * 5 + 3, none⟩ a3).setCell ⟨g, n * 5 + 4, none⟩ a4) base e 5 (.slice (some ⟨g, 0, none⟩) (n + 1) cap) (rs ++ [[a0, a1, a2, a3, a4]]) := by
  have hr := h.row
  rw [List.flatten_append, List.flatten_singleton, show (rs ++ [r]).length = n + 1 by simp [hn]] at hr
  have hfl : rs.flatten.length = n * 5 := by rw [flat_len (fun q hq => (h.each q (by simp [hq])).1), hn]
  have hs := ((((((((hr.stored (n * 5) a0).1).stored (n * 5 + 1) a1).1).stored (n * 5 + 2) a2).1).stored (n * 5 + 3) a3).1.stored (n * 5 + 4) a4).1
  rw [set5 _ _ hfl _ (h.each r (by simp)).1] at hs
  refine ⟨?_, fun q hq => ?_⟩
  · rw [List.flatten_append, List.flatten_singleton]
    simpa [hn] using hs
  · rcases List.mem_append.1 hq with hq | hq
    · exact h.each q (by simp [hq])
    · simp at hq
      subst hq
      exact ⟨rfl, h1⟩

theorem Own.free {w : World} {base g n cap size : Nat} {e : TypeId} {rs : List (List Value)} (h : Own w base e size (.slice (some ⟨g, 0, none⟩) n cap) rs) (k : Nat) : w.frozen? ⟨g, k, none⟩ = false := by
  rcases h.row.2 with ⟨h', _⟩ | ⟨g', cap', cur, h', hb, hg, _⟩
  · simp at h'
  · simp only [Value.slice.injEq, Option.some.injEq, Addr.mk.injEq, and_true] at h'
    obtain ⟨rfl, _⟩ := h'
    simp [World.frozen?, hg]

/-- The cells of the last frame, and that they may be written. -/
theorem Gr.cells5 {d : Nat} {S : Nat → Prop} {w : World} {base g n cap : Nat} {l : List Frm} {x : Frm} (h : Gr (fun S w e (x : Frm) => VR d S w e x.slots) Frm.row 5 43 S base w (.slice (some ⟨g, 0, none⟩) (n + 1) cap) (l ++ [x])) (hn : n = l.length) :
    (∃ v, w.cell? ⟨g, n * 5, none⟩ = some v) ∧ (∃ v, w.cell? ⟨g, n * 5 + 1, none⟩ = some v) ∧ (∃ v, w.cell? ⟨g, n * 5 + 2, none⟩ = some v) ∧ (∃ v, w.cell? ⟨g, n * 5 + 3, none⟩ = some v) ∧ (∃ v, w.cell? ⟨g, n * 5 + 4, none⟩ = some v) ∧
    w.frozen? ⟨g, n * 5, none⟩ = false ∧ w.frozen? ⟨g, n * 5 + 1, none⟩ = false ∧ w.frozen? ⟨g, n * 5 + 2, none⟩ = false ∧ w.frozen? ⟨g, n * 5 + 3, none⟩ = false ∧ w.frozen? ⟨g, n * 5 + 4, none⟩ = false := by
  subst hn
  obtain ⟨es, h1, h2, h3⟩ := h
  obtain ⟨es', e, rfl, h4, h5⟩ := zip_snoc (r := Frm.row) h1
  rw [h5] at h2
  obtain ⟨_, a, cap', hv, _, _, hr⟩ := h2.rows
  simp only [Value.slice.injEq] at hv
  obtain ⟨rfl, _, rfl⟩ := hv
  obtain ⟨b', off, hab, _, _, hrow⟩ := hr.resolve_left (by simp)
  cases hab
  have hrr := hrow l.length (x.row e) (by rw [List.getElem?_append_right (by rw [zip_len h4]; omega), zip_len h4]; simp)
  rw [Nat.zero_add] at hrr
  exact ⟨⟨_, hrr 0 _ rfl⟩, ⟨_, hrr 1 _ rfl⟩, ⟨_, hrr 2 _ rfl⟩, ⟨_, hrr 3 _ rfl⟩, ⟨_, hrr 4 _ rfl⟩, h2.free _, h2.free _, h2.free _, h2.free _, h2.free _⟩

/-- Another frame in the last one's place. -/
theorem Gr.last {d : Nat} {S : Nat → Prop} {w : World} {base g n cap : Nat} {l : List Frm} {x y : Frm} {q : Value} (h : Gr (fun S w e (x : Frm) => VR d S w e x.slots) Frm.row 5 43 S base w (.slice (some ⟨g, 0, none⟩) (n + 1) cap) (l ++ [x])) (hn : n = l.length)
    (hq : VR d (fun z => S z ∧ z ≠ g) w q y.slots) (ho : q.oneCell' = true) :
    Gr (fun S w e (x : Frm) => VR d S w e x.slots) Frm.row 5 43 S base (((((w.setCell ⟨g, n * 5, none⟩ (.int .i64 y.code)).setCell ⟨g, n * 5 + 1, none⟩ (.int .i64 y.method)).setCell ⟨g, n * 5 + 2, none⟩ (.int .i64 y.world)).setCell ⟨g, n * 5 + 3, none⟩ (.int .i64 y.pc)).setCell ⟨g, n * 5 + 4, none⟩ q) (.slice (some ⟨g, 0, none⟩) (n + 1) cap) (l ++ [y]) := by
  obtain ⟨es, h1, h2, h3⟩ := h
  obtain ⟨es', e, rfl, h4, h5⟩ := zip_snoc (r := Frm.row) h1
  rw [h5] at h2
  have hk : Kept [g] w (((((w.setCell ⟨g, n * 5, none⟩ (.int .i64 y.code)).setCell ⟨g, n * 5 + 1, none⟩ (.int .i64 y.method)).setCell ⟨g, n * 5 + 2, none⟩ (.int .i64 y.world)).setCell ⟨g, n * 5 + 3, none⟩ (.int .i64 y.pc)).setCell ⟨g, n * 5 + 4, none⟩ q) :=
    (((((Kept.refl _ w).setCell (by simp) _).setCell (by simp) _).setCell (by simp) _).setCell (by simp) _).setCell (by simp) _
  refine ⟨es' ++ [q], by simp [h4], ?_, fun k z e' hz he => ?_⟩
  · rw [List.zipWith_append h4.symm]
    exact h2.last5 (by rw [zip_len h4, hn]) _ _ _ _ _ (by simp [Value.oneCell']; exact ho)
  · rcases Nat.lt_or_ge k l.length with hl | hl
    · rw [List.getElem?_append_left hl] at hz
      rw [List.getElem?_append_left (by omega)] at he
      exact (VR.good d).kept (h3 k z e' (by rw [List.getElem?_append_left hl]; exact hz) (by rw [List.getElem?_append_left (by omega)]; exact he)) hk (by simp [Value.ownBlock])
    · have hke : k = l.length := by have := (List.getElem?_eq_some_iff.1 hz).1; simp at this; omega
      subst hke
      rw [List.getElem?_append_right (by omega)] at hz
      rw [List.getElem?_append_right (by omega), h4] at he
      simp at hz he
      subst hz he
      exact (VR.good d).mono ((VR.good d).kept hq hk (by simp)) (fun z _ hz => ⟨hz.1, by simp [Value.ownBlock]; exact fun e => hz.2 e.symm⟩)

set_option maxRecDepth 100000 in
set_option maxHeartbeats 1600000 in
/-- Too many slots. -/
theorem replace_bad (d : Nat) {S : Nat → Prop} {g : Option Nat} (b : Nat) (l : List Frm) (x y : Frm) (qa : Option Addr) (qc : Nat) (w : World) (h : Sk d S w b g (l ++ [x])) (h1 : 0 ≤ y.code) (h2 : 0 ≤ y.method) (h3 : 0 ≤ y.pc) (hy : y.world < 1 ∨ 200 < y.slots.length) :
    Calls Try.prog 32 #[.pointer (some ⟨b, 0, none⟩), .agg #[.int .i64 y.code, .int .i64 y.method, .int .i64 y.world, .int .i64 y.pc, .slice qa y.slots.length qc]] w fun e w' => e = .returned (.int .i64 1) ∧ Kept [] w w' := by
  obtain ⟨g', cap, q, rfl, hb, g1, g2, g3, g4, _, _, hg⟩ := h.last
  have hbl := hb.lt
  have e0 := hb.cell 0 _ rfl
  have hz : ((l.length : Int) + 1 == 0) = false := by rw [beq_eq_false_iff_ne]; omega
  clear h hb hg
  go_enter Try.func32, Try.ntmps32
  go_wp2_with (first
    | (go_at_call 45; refine Calls.mono (valid_false y qa qc _ (by exact h1) (by exact h2) (by exact h3) (by exact hy)) ?_; rintro e w1 ⟨rfl, hk1⟩))
  go_ret
  exact ⟨rfl, ((Kept.refl [] w).alloc _).trans hk1⟩

set_option maxRecDepth 100000 in
set_option maxHeartbeats 1600000 in
theorem replace_ok (d : Nat) {S S' : Nat → Prop} {g : Option Nat} (b : Nat) (l : List Frm) (x y : Frm) (q : Value) (w : World) (h : Sk d S w b g (l ++ [x])) (hy : okFrame y) (hq : VR d S' w q y.slots) :
    Calls Try.prog 32 #[.pointer (some ⟨b, 0, none⟩), .agg #[.int .i64 y.code, .int .i64 y.method, .int .i64 y.world, .int .i64 y.pc, q]] w fun e w' => e = .returned (.int .i64 0) ∧
      Sk d (fun z => S z ∨ w.heap.size ≤ z) w' b g (l ++ [y]) ∧ Kept g.toList w w' := by
  obtain ⟨g', cap, qx, rfl, hb, g1, g2, g3, g4, hr, _, hg⟩ := h.last
  obtain ⟨qa, qc, rfl, _, _, _⟩ := hq.form
  obtain ⟨n, hn⟩ : ∃ n, n = l.length := ⟨_, rfl⟩
  rw [← hn] at hb g1 hr hg
  have HN := Lib.hid hn
  have hbl := hb.lt
  have e0 := hb.cell 0 _ rfl
  have hz : ((n : Int) + 1 == 0) = false := by rw [beq_eq_false_iff_ne]; omega
  have hw1 : IntKind.i64.wrap ((n : Int) + 1 - 1) = n := by rw [Int.add_sub_cancel]; exact IntWalk.i64_in _ (by omega)
  have hw2 : IntKind.i64.wrap (n : Int) = n := IntWalk.i64_in _ (by omega)
  have hlt : (n : Int) < (n : Int) + 1 := by omega
  have HB := Lib.hid hb
  have HG := Lib.hid hg
  have HQ := Lib.hid hq
  have HY := Lib.hid hy
  have HR := Lib.hid hr
  clear h hb hg hn hq hy hr
  go_enter Try.func32, Try.ntmps32
  go_wp2_with (first
    | (go_at_call 45; refine Calls.mono (valid_true y qa qc _ HY.out) ?_; rintro e w1 ⟨rfl, hk1⟩; have hk1' := ((Kept.refl [] w).alloc (.cells (y.row (.slice qa y.slots.length qc)).toArray 43)).trans hk1; have HB1 := Lib.hid (HB.out.kept hk1' (by simp)); have e0 := HB1.out.cell 0 _ rfl; have hz1' := hk1'.size; have HQ1 := Lib.hid ((VR.good d).kept HQ.out hk1' (by simp)); obtain ⟨⟨c0, c1, c2, c3, c4⟩, _⟩ := ((Blk.new w (y.row (.slice qa y.slots.length qc)) 43).kept hk1 (by simp)).five))
  go_region_law ((first
    | (refine step_call rfl 46 Try.f46 Try.func46 (by kernel_rfl) (by kernel_rfl) _ _ rfl [.agg #[.int .i64 y.code, .int .i64 y.method, .int .i64 y.world, .int .i64 y.pc, .slice qa y.slots.length qc]] rfl (ownFrame d y (.slice qa y.slots.length qc) _ (by exact (VR.good d).kept HQ1.out ((Kept.refl [] _).drew) (by simp))) (by rintro e w' ⟨e', rfl, _⟩; exact ⟨_, rfl⟩) ?_; rintro v2 w2 ⟨q2, hve, hv2, hk2⟩; cases hve; obtain ⟨q2a, q2c, rfl, _, _, _⟩ := hv2.form; have hk2' := (hk1'.drew).trans hk2; have hg2 := HG.out.kept (VR.goodAt d Frm.slots) hk2' (by simp) (by simp); obtain ⟨⟨_, i0⟩, ⟨_, i1⟩, ⟨_, i2⟩, ⟨_, i3⟩, ⟨_, i4⟩, j0, j1, j2, j3, j4⟩ := hg2.cells5 HN.out; have HV2 := Lib.hid hv2; have HG2 := Lib.hid hg2; have HB2 := Lib.hid (HB1.out.kept (((Kept.refl [] w1).drew).trans hk2) (by simp)); have e0 := HB2.out.cell 0 _ rfl; have hz2 := hk2.size; simp at hz2; clear hv2 hg2)))
  all_goals go_wp2
  all_goals
    go_ret
    refine ⟨rfl, ⟨.slice (some ⟨g', 0, none⟩) (n + 1) cap, rfl, ?_, ?_⟩, ?_⟩
    · refine HB2.out.kept (M := [g']) (((((Kept.refl _ w2).setCell (by simp) _).setCell (by simp) _).setCell (by simp) _).setCell (by simp) _ |>.setCell (by simp) _) (by simp; omega)
    · refine Gr.last (HG2.out.mono (VR.goodAt d Frm.slots) (Nat.le_refl _) (fun _ _ h => .inl h)) HN.out ((VR.good d).mono HV2.out (fun z _ hz => ⟨.inr ?_, ?_⟩)) rfl
      · simp at hz; omega
      · simp at hz; omega
    · exact hk2'.nil.trans' (M' := [g']) (((((Kept.refl _ w2).setCell (by simp) _).setCell (by simp) _).setCell (by simp) _).setCell (by simp) _ |>.setCell (by simp) _) (by simp)
end Go.Proofs.Ytkldomkooleecaa
