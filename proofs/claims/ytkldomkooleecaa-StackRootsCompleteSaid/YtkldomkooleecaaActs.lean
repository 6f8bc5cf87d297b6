/- Walks: generated operations on stacks. -/
import Derived.Test.YtkldomkooleecaaConst
import Derived.Deep.CutRange
import Derived.Deep.CutBlock
namespace Go.Proofs.Ytkldomkooleecaa
open Go.RowKit

/-- An operation on a stack. -/
structure Ac where
  op : Int
  f : Frm
def Ac.row (x : Ac) (e : Value) : List Value := [.int .i64 x.op, .int .i64 x.f.code, .int .i64 x.f.method, .int .i64 x.f.world, .int .i64 x.f.pc, e]
/-- Generated: small numbers, few slots. -/
def GenA (l : List Ac) : Prop := ∀ x ∈ l, 0 ≤ x.f.code ∧ 0 ≤ x.f.method ∧ 0 ≤ x.f.world ∧ x.f.world ≤ 4 ∧ 0 ≤ x.f.pc ∧ x.f.slots.length ≤ 3 ∧ (sobjs 1 x.f.slots).length ≤ 9
theorem GenA.snoc {l : List Ac} (h : GenA l) {x : Ac} (hx : 0 ≤ x.f.code ∧ 0 ≤ x.f.method ∧ 0 ≤ x.f.world ∧ x.f.world ≤ 4 ∧ 0 ≤ x.f.pc ∧ x.f.slots.length ≤ 3 ∧ (sobjs 1 x.f.slots).length ≤ 9) : GenA (l ++ [x]) := by
  intro y hy
  rcases List.mem_append.1 hy with hy | hy
  · exact h y hy
  · simp at hy; subst hy; exact hx

theorem info_act : ∃ i z, Try.prog.info? 45 = some i ∧ i.zero = some z ∧ i.size = 6 ∧ i.bytes = 64 ∧ z.cells.size = 6 := by
  have h : (Try.prog.info? 45).map (fun i => (i.zero.map (·.cells.size), i.size, i.bytes)) = some (some 6, 6, 64) := by kernel_rfl
  cases hi : Try.prog.info? 45 with
  | none => simp [hi] at h
  | some i =>
    simp [hi] at h
    obtain ⟨⟨z, hz, hz2⟩, h2, h3⟩ := h
    exact ⟨i, z, rfl, hz, h2, h3, hz2⟩

theorem Blk.six {w : World} {b : Nat} {t : TypeId} {x0 x1 x2 x3 x4 x5 : Value} (h : Blk w b [x0, x1, x2, x3, x4, x5] t) : (w.cell? ⟨b, 0, none⟩ = some x0 ∧ w.cell? ⟨b, 1, none⟩ = some x1 ∧ w.cell? ⟨b, 2, none⟩ = some x2 ∧ w.cell? ⟨b, 3, none⟩ = some x3 ∧ w.cell? ⟨b, 4, none⟩ = some x4 ∧ w.cell? ⟨b, 5, none⟩ = some x5) ∧ w.frozen? ⟨b, 0, none⟩ = false ∧ w.frozen? ⟨b, 5, none⟩ = false :=
  ⟨⟨h.cell 0 _ rfl, h.cell 1 _ rfl, h.cell 2 _ rfl, h.cell 3 _ rfl, h.cell 4 _ rfl, h.cell 5 _ rfl⟩, h.frozen 0, h.frozen 5⟩

/-- A value that may stand in a slot. -/
def okVl (x : Vl) : Prop := (objs 1 x).length ≤ 3
theorem okVl_flat (k n : Int) (s : ByteArray) : okVl (.mk k n s []) := by
  unfold okVl objs
  simp only [Vl.kind, Vl.n, Vl.elems]
  by_cases h5 : k = 5
  · simp [h5]
  · by_cases h4 : k = 4 <;> simp [h5, h4]
theorem objs_zero_le (x : Vl) : (objs 0 x).length ≤ 1 := by
  unfold objs
  by_cases h5 : x.kind = 5 <;> simp [h5]
theorem okVl_three (n : Int) (s : ByteArray) (a b c : Vl) : okVl (.mk 4 n s [a, b, c]) := by
  unfold okVl
  rw [objs_four 0 _ rfl]
  simp only [Vl.elems, List.flatMap_cons, List.flatMap_nil, List.length_append, List.length_nil]
  have := objs_zero_le a
  have := objs_zero_le b
  have := objs_zero_le c
  omega
theorem sobjs_le (l : List Vl) (h : ∀ x ∈ l, okVl x) : (sobjs 1 l).length ≤ 3 * l.length := by
  induction l with
  | nil => simp [sobjs]
  | cons x l ih =>
    have h1 := h x (by simp)
    have h2 := ih (fun y hy => h y (by simp [hy]))
    unfold okVl at h1
    simp only [sobjs, List.flatMap_cons, List.length_append, List.length_cons] at h2 ⊢
    omega
theorem okVl_snoc {l : List Vl} (h : ∀ x ∈ l, okVl x) {x : Vl} (hx : okVl x) : ∀ y ∈ l ++ [x], okVl y := by
  intro y hy
  rcases List.mem_append.1 hy with hy | hy
  · exact h y hy
  · simp at hy; subst hy; exact hx

/-- A tuple of three flat values. -/
theorem tupVR {w : World} {c : Nat} {S : Nat → Prop} (k0 n0 : Int) (s0 : ByteArray) (k1 n1 : Int) (s1 : ByteArray) (k2 n2 : Int) (s2 : ByteArray) (hS : S c)
    (hc : Blk w c [.int .i64 k0, .int .i64 n0, .string s0, .slice none 0 0, .int .i64 k1, .int .i64 n1, .string s1, .slice none 0 0, .int .i64 k2, .int .i64 n2, .string s2, .slice none 0 0] 50) :
    VR 1 S w (.slice (some ⟨c, 0, none⟩) 3 3) [.mk k0 n0 s0 [], .mk k1 n1 s1 [], .mk k2 n2 s2 []] := by
  refine ⟨by simp, [.slice none 0 0, .slice none 0 0, .slice none 0 0], rfl, ?_, fun i x e hx he => ?_⟩
  · have hr := lit_rows (size := 4) [[.int .i64 k0, .int .i64 n0, .string s0, .slice none 0 0], [.int .i64 k1, .int .i64 n1, .string s1, .slice none 0 0], [.int .i64 k2, .int .i64 n2, .string s2, .slice none 0 0]] hc (by simp [Value.oneCell']) (by simp)
    obtain ⟨h1, a, cap, h2, h3, h4, h5⟩ := hr
    refine ⟨h1, a, cap, h2, h3, h4, .inr ?_⟩
    obtain ⟨b, off, e, _, g⟩ := h5.resolve_left (by simp)
    subst e
    simp only [Value.slice.injEq, Option.some.injEq, Addr.mk.injEq] at h2
    obtain ⟨⟨rfl, rfl, _⟩, _⟩ := h2
    exact ⟨_, _, rfl, hS, g⟩
  · have : e = .slice none 0 0 ∧ x.elems = [] := by
      match i, hx, he with
      | 0, hx, he => simp at hx he; subst hx he; exact ⟨rfl, rfl⟩
      | 1, hx, he => simp at hx he; subst hx he; exact ⟨rfl, rfl⟩
      | 2, hx, he => simp at hx he; subst hx he; exact ⟨rfl, rfl⟩
      | i + 3, hx, he => simp at he
    show VR 0 _ w e x.elems
    rw [this.1, this.2]
    exact VR.nil 0 _ _

/-- The slots of an operation in the making. -/
abbrev SlotsAt (A : Nat) (wr : World) (sv : Value) (l : List Vl) : Prop := Gr (fun S w e (x : Vl) => VR 1 S w e x.elems) Vl.row 4 50 (A < ·) (A + 1) wr sv l

/-- One slot more. -/
theorem slots_more {A : Nat} {W w5 : World} {sv v5 : Value} {ls : List Vl} {es : List Value} {x : Vl} {e : Value} (n1 : es.length = ls.length)
    (n3 : ∀ (k : Nat) (x : Vl) (e : Value), ls[k]? = some x → es[k]? = some e → VR 1 (fun y => A < y ∧ sv.ownBlock ≠ some y) W e x.elems) (hx : VR 1 (fun y => A < y ∧ sv.ownBlock ≠ some y) W e x.elems)
    (ho : Own w5 (A + 1) 50 4 v5 (List.zipWith Vl.row ls es ++ [x.row e])) (hk : ∀ M, (∀ x, sv.ownBlock = some x → x ∈ M) → Kept M W w5) (hl : v5.ownBlock = sv.ownBlock ∨ ∃ g, v5.ownBlock = some g ∧ W.heap.size ≤ g) :
    SlotsAt A (w5.setCell ⟨A, 5, none⟩ v5) v5 (ls ++ [x]) := by
  have h := Gr.snoc (S := (A < ·)) (VR.goodAt 1 Vl.elems) n1 n3 hx ho hk hl
  refine h.kept (VR.goodAt 1 Vl.elems) ((Kept.refl [A] w5).setCell (by simp) _) (fun y hy e => ?_) (fun y hy => ?_)
  · simp at hy
    subst hy
    have := (h.lt _ e).1
    omega
  · simp at hy
    subst hy
    exact Nat.lt_irrefl _

set_option maxRecDepth 100000 in
set_option maxHeartbeats 6400000 in
theorem generated (b m n : Nat) (w : World) (hT : Tp w b m) (hm : m + 21 * n ≤ 100000) :
    Calls Try.prog 19 #[.pointer (some ⟨b, 0, none⟩), .int .i64 n] w fun e w' => ∃ v' l, e = .returned v' ∧ l.length = n ∧ GenA l ∧
      Gr (fun S w e (x : Ac) => VR 2 S w e x.f.slots) Ac.row 6 45 (w.heap.size ≤ ·) w.heap.size w' v' l ∧ Tp w' b (m + 21 * n) ∧ Kept [b] w w' := by
  have hbl := hT.lt
  obtain ⟨i0, z0, hi, hz0, hz1, hz2, hz3⟩ := info_value
  obtain ⟨ia, za, hia, hza0, hza1, hza2, hza3⟩ := info_act
  go_enter Try.func19, Try.ntmps19
  go_wp2
  go_loopg [5, 6] n (fun k v i wr => ∃ (j : Nat) (l : List Ac), k = n - j ∧ j ≤ n ∧ i = .int .i64 j ∧ l.length = j ∧ GenA l ∧ Hid (Gr (fun S w e (x : Ac) => VR 2 S w e x.f.slots) Ac.row 6 45 (w.heap.size ≤ ·) w.heap.size wr v l) ∧ Tp wr b (m + 21 * j) ∧ Kept [b] w wr)
  case atStart => exact ⟨0, [], rfl, Nat.zero_le _, rfl, rfl, (fun x hx => by simp at hx), Gr.nil _ _ _, hT, Kept.refl _ _⟩
  case round =>
    clear hT
    obtain ⟨j, l, rfl, hj, rfl, hl, hg, hgr, hT, hk⟩ := hrel
    have hs0 := hk.size
    by_cases hlt : j < n
    · obtain ⟨wo, hwo⟩ : ∃ wo : World, wo = wr := ⟨_, rfl⟩
      subst hwo
      have HGEN := Lib.hid hg
      have HLEN := Lib.hid hl
      clear hg hl
      go_wp2_with fail
      refine Calls.mono (tapeNext b _ 6 _ (by exact hT) (by omega) (by omega)) ?_
      rintro e w1 ⟨p1, rfl, hp1, _, _, hT1, hk1⟩
      go_wp2_with fail
      refine Calls.mono (tapeNext b _ 4 _ (by exact hT1) (by omega) (by omega)) ?_
      rintro e w2 ⟨p2, rfl, hp2, _, _, hT2, hk2⟩
      go_wp2_with fail
      refine Calls.mono (tapeNext b _ 4 _ (by exact hT2) (by omega) (by omega)) ?_
      rintro e w3 ⟨p3, rfl, hp3, _, _, hT3, hk3⟩
      go_wp2_with fail
      refine Calls.mono (tapeNext b _ 5 _ (by exact hT3) (by omega) (by omega)) ?_
      rintro e w4 ⟨p4, rfl, hp4, _, hp4', hT4, hk4⟩
      have hp4' := hp4' (by omega)
      go_wp2_with fail
      refine Calls.mono (tapeNext b _ 9 _ (by exact hT4) (by omega) (by omega)) ?_
      rintro e w5 ⟨p5, rfl, hp5, _, _, hT5, hk5⟩
      have hko : Kept [b] wo w5 := (((hk1.trans hk2).trans hk3).trans hk4).trans hk5
      have hso := hko.size
      clear hT hT1 hT2 hT3 hT4 hk1 hk2 hk3 hk4 hk5
      go_upto_if 29 with (fail)
      go_cut [7] from 10 to 67 (fun s7 wx => ∃ (op : Int) (A : Nat), s7 = .pointer (some ⟨A, 0, none⟩) ∧ Hid (Blk wx A [.int .i64 op, .int .i64 p2, .int .i64 p3, .int .i64 p4, .int .i64 p5, .slice none 0 0] 45) ∧ Tp wx b (m + 21 * j + 5) ∧ Kept [b] wo wx ∧ wo.heap.size ≤ A)
      case first =>
        by_cases h5 : p1 = 5
        · subst h5
          go_wp2_with fail
          go_meet
          exact ⟨0, w5.heap.size, rfl, Blk.new w5 [.int .i64 0, .int .i64 p2, .int .i64 p3, .int .i64 p4, .int .i64 p5, .slice none 0 0] _, hT5.kept ((Kept.refl [] _).alloc _) (by simp), hko.alloc _, hso⟩
        · have h5' : (p1 == 5) = false := by simpa using h5
          clear h5
          go_wp2_with fail
          go_meet
          exact ⟨p1, w5.heap.size, rfl, Blk.new w5 [.int .i64 p1, .int .i64 p2, .int .i64 p3, .int .i64 p4, .int .i64 p5, .slice none 0 0] _, hT5.kept ((Kept.refl [] _).alloc _) (by simp), hko.alloc _, hso⟩
      case rest =>
        obtain ⟨op, A, rfl, HA, hTc, hkc, hAo⟩ := hcut
        clear hT5 hko hso
        have hAlt := HA.out.lt
        go_wp2_with fail
        refine Calls.mono (tapeNext b _ 4 _ (by exact hTc) (by omega) (by omega)) ?_
        rintro e w6 ⟨p6, rfl, hp6, _, hp6', hT6, hk6⟩
        have hp6' := hp6' (by omega)
        have HA6 := Lib.hid (HA.out.kept hk6 (by simp; omega))
        have hk6' : Kept [b] wo w6 := hkc.trans hk6
        have hs6 := HA6.out.lt
        clear HA hk6 hkc hTc hAlt
        go_wp2_with fail
        go_loopg [8] p6.toNat (fun kk q wr => ∃ (q' : Int) (ls : List Vl) (sv : Value), kk = q'.toNat ∧ q = .int .i64 q' ∧ 0 ≤ q' ∧ q' + ls.length ≤ 3 ∧ Hid (∀ x ∈ ls, okVl x) ∧ Hid (Blk wr A [.int .i64 op, .int .i64 p2, .int .i64 p3, .int .i64 p4, .int .i64 p5, sv] 45) ∧ Hid (SlotsAt A wr sv ls) ∧ Tp wr b (m + 21 * j + 6 + 5 * ls.length) ∧ Kept [b] wo wr ∧ A < wr.heap.size)
        case atStart => exact ⟨p6, [], .slice none 0 0, rfl, rfl, hp6, by simp; omega, fun x hx => by simp at hx, HA6.out, (show SlotsAt A w6 _ [] from Gr.nil _ _ _), hT6.more (by simp), hk6', hs6⟩
        case round =>
          clear HA6 hT6 hk6' hs6
          obtain ⟨q, ls, sv, rfl, rfl, hq, hql, hok, hA, hsl, hT, hk6, hsA⟩ := hrel
          by_cases hq0 : 0 < q
          · obtain ⟨wp, hwp⟩ : ∃ wp : World, wp = wr := ⟨_, rfl⟩
            subst hwp
            go_wp2_with fail
            refine Calls.mono (tapeNext b _ 9 _ (by exact hT) (by omega) (by omega)) ?_
            rintro e w7 ⟨r9, rfl, hr9, _, _, hT7, hk7⟩
            have hs7 := hk7.size
            go_wp2_with fail
            refine Calls.mono (tapeNext b _ 4 _ (by exact hT7.kept ((Kept.refl [] w7).alloc _) (by simp)) (by omega) (by omega)) ?_
            rintro e w8 ⟨r4, rfl, hr4, _, hr4', hT8, hk8⟩
            have hr4' := hr4' (by omega)
            have hV := (Blk.new w7 (rroot r9) 50).kept hk8 (by simp; omega)
            have hk8' : Kept [b] wp w8 := (hk7.alloc _).trans hk8
            have hs8 := hk8'.size
            obtain ⟨V, hVe⟩ : ∃ V, V = w7.heap.size := ⟨_, rfl⟩
            rw [← hVe] at hV ⊢
            have hpV : wp.heap.size ≤ V := by omega
            have hV8 := hV.lt
            have HV := Lib.hid hV
            clear hVe hV hk8 hk7 hT7
            go_upto_block 4 with (fail)
            go_cut [9] from 33 to 63 (fun s9 wx => ∃ (V : Nat) (x : Vl) (e : Value), s9 = .pointer (some ⟨V, 0, none⟩) ∧ wp.heap.size ≤ V ∧ okVl x ∧ Hid (Blk wx V (x.row e) 50) ∧ Hid (VR 1 (fun y => wp.heap.size ≤ y) wx e x.elems) ∧ Hid (Blk wx A [.int .i64 op, .int .i64 p2, .int .i64 p3, .int .i64 p4, .int .i64 p5, sv] 45) ∧ Tp wx b (m + 21 * j + 6 + 5 * ls.length + 5) ∧ Kept [b] wp wx)
            case first =>
              have hAb : A ≠ b := by have := hk.size; omega
              have hVA : V ≠ A := by omega
              have hcase : r4 = 0 ∨ r4 = 1 ∨ (r4 = 2 ∨ r4 = 3) := by omega
              have hset : ∀ (w9 : World) (x : Vl) (e : Value), okVl x → Kept [b] wp w9 → Blk w9 V (rroot r9) 50 → VR 1 (fun y => wp.heap.size ≤ y ∧ y ≠ V) w9 e x.elems → Tp w9 b (m + 21 * j + 6 + 5 * ls.length + 5) →
                  ∃ (V' : Nat) (x' : Vl) (e' : Value), Value.pointer (some ⟨V, 0, none⟩) = .pointer (some ⟨V', 0, none⟩) ∧ wp.heap.size ≤ V' ∧ okVl x' ∧ Hid (Blk ((((w9.setCell ⟨V, 0, none⟩ (.int .i64 x.kind)).setCell ⟨V, 1, none⟩ (.int .i64 x.n)).setCell ⟨V, 2, none⟩ (.string x.s)).setCell ⟨V, 3, none⟩ e) V' (x'.row e') 50) ∧ Hid (VR 1 (fun y => wp.heap.size ≤ y) ((((w9.setCell ⟨V, 0, none⟩ (.int .i64 x.kind)).setCell ⟨V, 1, none⟩ (.int .i64 x.n)).setCell ⟨V, 2, none⟩ (.string x.s)).setCell ⟨V, 3, none⟩ e) e' x'.elems) ∧ Hid (Blk ((((w9.setCell ⟨V, 0, none⟩ (.int .i64 x.kind)).setCell ⟨V, 1, none⟩ (.int .i64 x.n)).setCell ⟨V, 2, none⟩ (.string x.s)).setCell ⟨V, 3, none⟩ e) A [.int .i64 op, .int .i64 p2, .int .i64 p3, .int .i64 p4, .int .i64 p5, sv] 45) ∧ Tp ((((w9.setCell ⟨V, 0, none⟩ (.int .i64 x.kind)).setCell ⟨V, 1, none⟩ (.int .i64 x.n)).setCell ⟨V, 2, none⟩ (.string x.s)).setCell ⟨V, 3, none⟩ e) b (m + 21 * j + 6 + 5 * ls.length + 5) ∧ Kept [b] wp ((((w9.setCell ⟨V, 0, none⟩ (.int .i64 x.kind)).setCell ⟨V, 1, none⟩ (.int .i64 x.n)).setCell ⟨V, 2, none⟩ (.string x.s)).setCell ⟨V, 3, none⟩ e) := by
                intro w9 x e hx hk9 hV9 hE hT9
                have hkV : Kept [V] w9 ((((w9.setCell ⟨V, 0, none⟩ (.int .i64 x.kind)).setCell ⟨V, 1, none⟩ (.int .i64 x.n)).setCell ⟨V, 2, none⟩ (.string x.s)).setCell ⟨V, 3, none⟩ e) :=
                  ((((Kept.refl _ w9).setCell (by simp) _).setCell (by simp) _).setCell (by simp) _).setCell (by simp) _
                exact ⟨V, x, e, rfl, hpV, hx, (((hV9.set 0 (.int .i64 x.kind)).set 1 (.int .i64 x.n)).set 2 (.string x.s)).set 3 e, (VR.good 1).mono ((VR.good 1).kept hE hkV (by simp)) (fun _ _ h => h.1), (hA.out.kept hk9 (by simpa using hAb)).kept hkV (by simpa using hVA.symm), hT9.kept hkV (by simp; omega), hk9.trans' hkV (by simp; omega)⟩
              have HSET := Lib.hid hset
              clear hset
              rcases hcase with rfl | rfl | hcase
              · go_wp2_with fail
                refine Calls.mono (tapeConst b _ _ (by exact hT8) (by omega)) ?_
                rintro e w9 ⟨ck, cn, cs, rfl, _, _, hT9, hk9⟩
                have hV9 := HV.out.kept hk9 (by simp; omega)
                obtain ⟨⟨q0, q1, q2, q3⟩, j0, j1, j2, j3⟩ := hV9.four
                have HV9 := Lib.hid hV9
                clear hV9
                go_wp2_with fail
                go_meet
                exact HSET.out w9 (.mk ck cn cs []) (.slice none 0 0) (okVl_flat ..) (hk8'.trans hk9) HV9.out (VR.nil 1 _ _) (hT9.more (by omega))
              · obtain ⟨⟨q0, q1, q2, q3⟩, j0, j1, j2, j3⟩ := HV.out.four
                have hVb : V ≠ b := by have := hk.size; omega
                go_wp2_with fail
                go_region_law ((first
                  | (refine step_call rfl 44 Try.f44 Try.func44 (by kernel_rfl) (by kernel_rfl) _ _ rfl [.pointer (some ⟨b, 0, none⟩)] rfl (tapeConst b _ _ (by exact hT8.kept ((Kept.refl [] _).drew) (by simp)) (by omega)) (by rintro e w' ⟨_, _, _, rfl, _⟩; exact ⟨_, rfl⟩) ?_; rintro v9 w9 ⟨ck, cn, cs, hve, _, _, hT9, hk9⟩; cases hve; have hk9 := ((Kept.refl [b] w8).drew).trans hk9; have hV9 := HV.out.kept hk9 (by simpa using hVb); obtain ⟨⟨q0, q1, q2, q3⟩, j0, j1, j2, j3⟩ := hV9.four; have HV9 := Lib.hid hV9; clear hV9)
                  | (refine step_call rfl 26 Try.f26 Try.func26 (by kernel_rfl) (by kernel_rfl) _ _ rfl [.pointer (some ⟨b, 0, none⟩), .int .i64 9] rfl (tapeNext b _ 9 _ (by exact hT9) (by omega) (by omega)) (by rintro e w' ⟨_, rfl, _⟩; exact ⟨_, rfl⟩) ?_; rintro v10 w10 ⟨r10, hve, hr10, _, _, hT10, hk10⟩; cases hve; have hk10 := hk9.trans hk10; have hV10 := HV.out.kept hk10 (by simpa using hVb); have hlV := hV10.lt; obtain ⟨⟨q0, q1, q2, q3⟩, j0, j1, j2, j3⟩ := hV10.four; have HV10 := Lib.hid hV10; clear hV10)))
                all_goals
                  go_wp2_with fail
                  go_meet
                  have hkV : Kept [V] w10 ((((w10.setCell ⟨V, 0, none⟩ (.int .i64 4)).setCell ⟨V, 1, none⟩ (.int .i64 0)).setCell ⟨V, 2, none⟩ (.string ⟨#[]⟩)).setCell ⟨V, 3, none⟩ (.slice (some ⟨w10.heap.size, 0, none⟩) 3 3)) :=
                    ((((Kept.refl _ w10).setCell (by simp) _).setCell (by simp) _).setCell (by simp) _).setCell (by simp) _
                  have hk10' := hk8'.trans hk10
                  have hs10 := hk10'.size
                  refine ⟨V, .mk 4 0 ⟨#[]⟩ [.mk 5 r9 ⟨#[]⟩ [], .mk ck cn cs [], .mk 5 r10 ⟨#[]⟩ []], .slice (some ⟨w10.heap.size, 0, none⟩) 3 3, rfl, hpV, okVl_three .., ?_, ?_, ?_, ?_, ?_⟩
                  · exact ((((HV10.out.set 0 (.int .i64 4)).set 1 (.int .i64 0)).set 2 (.string ⟨#[]⟩)).set 3 (.slice (some ⟨w10.heap.size, 0, none⟩) 3 3)).kept ((Kept.refl [] _).alloc _) (by simp)
                  · exact tupVR _ _ _ _ _ _ _ _ _ (by omega) (halloc_new _ _ _ (by simp))
                  · exact ((hA.out.kept hk10' (by simpa using hAb)).kept hkV (by simpa using hVA.symm)).kept ((Kept.refl [] _).alloc _) (by simp)
                  · exact ((hT10.kept hkV (by simp; omega)).kept ((Kept.refl [] _).alloc _) (by simp)).more (by omega)
                  · exact (hk10'.trans' hkV (by simp; omega)).alloc _
              · rcases hcase with rfl | rfl
                all_goals
                  go_wp2_with fail
                  go_meet
                  exact ⟨V, .mk 5 r9 ⟨#[]⟩ [], .slice none 0 0, rfl, hpV, okVl_flat .., HV.out, VR.nil 1 _ _, hA.out.kept hk8' (by simpa using hAb), hT8.more (by omega), hk8'⟩
            case rest =>
              obtain ⟨V, x, e, rfl, hV, hx, HV, HE, HAx, hTx, hkx⟩ := hcut
              clear hT8 hk8' hV8 hs8
              obtain ⟨es, n1, n2, n3⟩ := hsl.out
              have hlen : (List.zipWith Vl.row ls es).length = ls.length := zip_len n1
              have n2lt := n2.lt
              have hAb : A ≠ b := by have := hk.size; omega
              obtain ⟨ea, ec, rfl, _⟩ := HE.out.form
              have hsx := hkx.size
              have hVA : V ≠ A := by omega
              obtain ⟨xk, xn, xs, xe⟩ := x
              simp only [Vl.row, Vl.kind, Vl.n, Vl.s] at HV
              obtain ⟨⟨q0, q1, q2, q3⟩, j0, j1, j2, j3⟩ := HV.out.four
              have e5 := HAx.out.cell 5 _ rfl
              have NN := Lib.hid (n2.kept hkx (fun y hy => by have := n2lt y hy; have := hk.size; simp; omega))
              have N1 := Lib.hid n1
              have N3 := Lib.hid n3
              have HX := Lib.hid hx
              clear n1 n2 n3 hx
              go_wp2_with (first
                | (refine wpList_append1 (.tmp 58) (.tmp 59) 41 50 rfl rfl rfl rfl rfl i0 z0 4 56 Try.underlying41 hi hz0 hz1 hz2 hz3 (by decide) (by decide) (A + 1) _ _ (fun _ => rfl) (fun _ => rfl) [.int .i64 xk, .int .i64 xn, .string xs, .slice ea xe.length ec] rfl rfl (by simp [Value.oneCell']) NN.out (by rw [hlen]; omega) (by rw [hlen]; omega) (by omega) ?_; intro v5 w10 ho5 hk5 hl5; have hA10 := HAx.out.kept (hk5 sv.ownBlock.toList (by intro y hy; simp [hy])) (by intro hy; have := (n2lt A (by simpa using hy)).1; omega); have e5 := hA10.cell 5 _ rfl; have f5 := hA10.frozen 5; have HA10 := Lib.hid hA10; obtain ⟨a5, c5, ev5, _⟩ := ho5.shape; rw [List.length_append, hlen, List.length_singleton] at ev5; subst ev5; have HO5 := Lib.hid ho5; have HK5 := Lib.hid hk5; have HL5 := Lib.hid hl5; clear ho5 hk5 hl5 hA10))
              go_roundg (q - 1).toNat
              case rel =>
                have hk5 := HK5.out sv.ownBlock.toList (by intro y hy; simp [hy])
                have hs5 := hk5.size
                have hkA : Kept [A] w10 (w10.setCell ⟨A, 5, none⟩ (.slice a5 (ls.length + 1) c5)) := (Kept.refl _ _).setCell (by simp) _
                refine ⟨q - 1, ls ++ [.mk xk xn xs xe], .slice a5 (ls.length + 1) c5, rfl, by go_num, by omega, by simp; omega, okVl_snoc hok.out HX.out, HA10.out.set 5 (.slice a5 (ls.length + 1) c5), ?_, ?_, ?_, ?_⟩
                · exact slots_more N1.out (fun k y e hy he => (VR.good 1).kept (N3.out k y e hy he) hkx (by simp; have := hk.size; omega)) ((VR.good 1).mono HE.out (fun y _ hy => ⟨by omega, fun e => by have := (n2lt y e).2; omega⟩)) HO5.out HK5.out HL5.out
                · have h1 := (hTx.kept hk5 (fun y hy => by have := (n2lt y (by simpa using hy)).1; have := hk.size; omega)).kept hkA (by simp; have := hk.size; omega)
                  exact h1.more (by simp; omega)
                · exact ((hk6.trans hkx).trans' hk5 (fun y hy => .inr (by have := (n2lt y (by simpa using hy)).1; omega))).trans' hkA (by simp; omega)
                · simp; omega
              case measure => omega
          · obtain ⟨⟨q0, q1, q2, q3, q4, q5⟩, _⟩ := hA.out.six
            obtain ⟨sa, sc, rfl, _⟩ := hsl.out.shape
            obtain ⟨es, n1, n2, n3⟩ := hgr.out
            have hlen : (List.zipWith Ac.row l es).length = j := by rw [zip_len n1]; exact HLEN.out
            have n2lt := n2.lt
            have NN := Lib.hid (n2.kept hk6 (fun y hy => by have := n2lt y hy; simp; omega))
            have N1 := Lib.hid n1
            have N3 := Lib.hid n3
            have hs6 := hk6.size
            clear n1 n2 n3
            go_wp2_with (first
              | (refine wpList_append1 (.tmp 64) (.tmp 65) 36 45 rfl rfl rfl rfl rfl ia za 6 64 Try.underlying36 hia hza0 hza1 hza2 hza3 (by decide) (by decide) w.heap.size _ _ (fun _ => rfl) (fun _ => rfl) [.int .i64 op, .int .i64 p2, .int .i64 p3, .int .i64 p4, .int .i64 p5, .slice sa ls.length sc] rfl rfl (by simp [Value.oneCell']) NN.out (by rw [hlen]; omega) (by rw [hlen]; omega) (by omega) ?_; intro v5 w10 ho5 hk5 hl5; have HO5 := Lib.hid ho5; have HK5 := Lib.hid hk5; have HL5 := Lib.hid hl5; clear ho5 hk5 hl5))
            go_roundg (n - (j + 1))
            case rel =>
              have hk5 := HK5.out u5.ownBlock.toList (by intro y hy; simp [hy])
              refine ⟨j + 1, l ++ [⟨op, ⟨p2, p3, p4, p5, ls⟩⟩], rfl, by omega, by go_num, by simp [HLEN.out], HGEN.out.snoc ⟨hp2, hp3, hp4, by simp only; omega, hp5, by simp only; omega, ?_⟩, ?_, ?_, ?_⟩
              · have := sobjs_le ls hok.out
                simp only
                omega
              · refine Gr.snoc (VR.goodAt 2 (fun x : Ac => x.f.slots)) N1.out (fun k y e hy he => (VR.good 2).kept (N3.out k y e hy he) hk6 (by simp; omega)) (show VR 2 _ _ _ ls from ?_) HO5.out HK5.out HL5.out
                exact ⟨by omega, (hsl.out.rd (VR.goodAt 1 Vl.elems) (fun y hy => hy)).mono (VR.goodAt 1 Vl.elems) (fun y _ hy => ⟨by omega, fun e => by have := (n2lt y e).2; omega⟩)⟩
              · exact (hT.kept hk5 (fun y hy => by have := (n2lt y (by simpa using hy)).1; omega)).more (by omega)
              · exact (hk.trans hk6).trans' hk5 (fun y hy => .inr (n2lt y (by simpa using hy)).1)
            case measure => omega
    · go_wp2
      go_ret
      have hjn : j = n := by omega
      subst hjn
      exact ⟨_, l, rfl, hl, hg, hgr.out, hT, hk⟩
end Go.Proofs.Ytkldomkooleecaa
