/- The reference cache in memory; walks: NewCache, index, Available. -/
import Derived.Test.YtkldomkooleecaaDoorCacheB
import Derived.Laws.ResultCell
namespace Go.Proofs.YtkldomkooleecaaDoor
open Go.RowKit

/-- A counter: method, how often it was called, the type of its arguments. -/
structure Cn where
  method : Int
  n : Int
  ty : Ty
def Cn.row (x : Cn) (e : Value) : List Value := [.int .i64 x.method, .int .i64 x.n, .int .i64 x.ty.kind, .string x.ty.name, .int .i64 x.ty.index, e]
theorem cn_good (d : Nat) : Good (fun S w e (x : Cn) => TR d S w e x.ty.args) := TR.goodAt d (fun x : Cn => x.ty.args)

/-- Read through a territory of more. -/
theorem Gr.rdT {β : Type} {Q : (Nat → Prop) → World → Value → β → Prop} {r : β → Value → List Value} {size : Nat} {t : TypeId} {S T : Nat → Prop} {base : Nat} {w : World} {v : Value} {l : List β} (hQ : Good Q) (h : Gr Q r size t S base w v l) (hs : ∀ y, S y → T y) (ho : ∀ y, v.ownBlock = some y → T y) : Rd Q r size T w v l := by
  obtain ⟨es, h1, h2, h3⟩ := h
  refine ⟨es, h1, ?_, fun k x e hx he => hQ.mono (h3 k x e hx he) fun _ _ h => hs _ h.1⟩
  obtain ⟨q1, a, cap, hv, q2, q3, q4⟩ := h2.rows'
  refine ⟨q1, a, cap, hv, q2, q3, ?_⟩
  rcases q4 with q4 | ⟨b, off, ha, hs, hb, hr⟩
  · exact .inl q4
  · refine .inr ⟨b, off, ha, ?_, hb, hr⟩
    rcases h2.row.2 with ⟨hv0, _⟩ | ⟨g, cap', cur, hv0, _⟩
    · have e := (Value.slice.inj (hv0.symm.trans hv)).1
      rw [← e] at ha
      cases ha
    · have e := (Value.slice.inj (hv0.symm.trans hv)).1
      rw [← e] at ha
      cases ha
      exact ho _ (by rw [hv0]; rfl)

/-- A reference cache lies at R; what it leads to lies where G allows. -/
def RCch (G : Nat → Prop) (d : Nat) (w : World) (R base : Nat) (cap next : Int) (l : List Cp) (cs : List Cn) : Prop :=
  R < base ∧ base ≤ w.heap.size ∧ (∀ y, w.heap.size ≤ y → G y) ∧ ∃ v n, Blk w R [v, .int .i64 cap, .int .i64 next, n] 85 ∧
    (∀ y, v.ownBlock = some y → G y ∧ n.ownBlock ≠ some y) ∧ (∀ y, n.ownBlock = some y → G y) ∧
    Gr (fun S w e (x : Cp) => CR d S w e x) Cp.row 14 43 (fun y => G y ∧ y ≠ R ∧ n.ownBlock ≠ some y) base w v l ∧
    Gr (fun S w e (x : Cn) => TR d S w e x.ty.args) Cn.row 6 91 (fun y => G y ∧ y ≠ R ∧ v.ownBlock ≠ some y) base w n cs

section
variable {G : Nat → Prop} {d : Nat} {w w' : World} {R base : Nat} {cap next : Int} {l : List Cp} {cs : List Cn}
theorem RCch.kept {M : List Nat} (h : RCch G d w R base cap next l cs) (k : Kept M w w') (hn : ∀ x ∈ M, x ≠ R ∧ ¬ G x) : RCch G d w' R base cap next l cs := by
  obtain ⟨h1, h2, hG, v, n, hb, hv, hvn, g1, g2⟩ := h
  have hn' : ∀ x ∈ M, ¬ G x := fun x hx => (hn x hx).2
  exact ⟨h1, Nat.le_trans h2 k.size, fun y hy => hG y (Nat.le_trans k.size hy), v, n, hb.kept k (fun hx => (hn R hx).1 rfl), hv, hvn,
    g1.kept (CR.good d) k (fun x hx e => hn' x hx (hv x e).1) (fun x hx hs => hn' x hx hs.1), g2.kept (cn_good d) k (fun x hx e => hn' x hx (hvn x e)) (fun x hx hs => hn' x hx hs.1)⟩
theorem RCch.kept0 (h : RCch G d w R base cap next l cs) (k : Kept [] w w') : RCch G d w' R base cap next l cs := h.kept k (by simp)
theorem RCch.lt (h : RCch G d w R base cap next l cs) : R < w.heap.size := by obtain ⟨h1, h2, _⟩ := h; omega
theorem RCch.move {G' : Nat → Prop} (h : RCch G d w R base cap next l cs) (h1 : ∀ y, y < w.heap.size → G y → G' y) (h2 : ∀ y, w.heap.size ≤ y → G' y) : RCch G' d w R base cap next l cs := by
  obtain ⟨g0, g1, _, v, n, hb, hv, hvn, g3, g4⟩ := h
  exact ⟨g0, g1, h2, v, n, hb, fun y hy => ⟨h1 y (g3.lt y hy).2 (hv y hy).1, (hv y hy).2⟩, fun y hy => h1 y (g4.lt y hy).2 (hvn y hy),
    g3.mono (CR.good d) (Nat.le_refl _) (fun y hy hs => ⟨h1 y hy hs.1, hs.2⟩), g4.mono (cn_good d) (Nat.le_refl _) (fun y hy hs => ⟨h1 y hy hs.1, hs.2⟩)⟩
/-- What a walk needs of it. -/
theorem RCch.form (h : RCch G d w R base cap next l cs) : ∃ a c a' c', l.length ≤ c ∧ c ≤ 9223372036854775807 ∧ cs.length ≤ c' ∧ c' ≤ 9223372036854775807 ∧ R < base ∧ base ≤ w.heap.size ∧
    w.cell? ⟨R, 0, none⟩ = some (.slice a l.length c) ∧ w.cell? ⟨R, 1, none⟩ = some (.int .i64 cap) ∧ w.cell? ⟨R, 2, none⟩ = some (.int .i64 next) ∧ w.cell? ⟨R, 3, none⟩ = some (.slice a' cs.length c') ∧
    Hid (Blk w R [.slice a l.length c, .int .i64 cap, .int .i64 next, .slice a' cs.length c'] 85) ∧
    Hid (Rd (fun S w e (x : Cp) => CR d S w e x) Cp.row 14 G w (.slice a l.length c) l) ∧
    Hid (Rd (fun S w e (x : Cn) => TR d S w e x.ty.args) Cn.row 6 G w (.slice a' cs.length c') cs) ∧
    Hid ((∀ y, w.heap.size ≤ y → G y) ∧ (∀ y, (Value.slice a l.length c).ownBlock = some y → G y ∧ (Value.slice a' cs.length c').ownBlock ≠ some y) ∧ (∀ y, (Value.slice a' cs.length c').ownBlock = some y → G y) ∧
      Gr (fun S w e (x : Cp) => CR d S w e x) Cp.row 14 43 (fun y => G y ∧ y ≠ R ∧ (Value.slice a' cs.length c').ownBlock ≠ some y) base w (.slice a l.length c) l ∧
      Gr (fun S w e (x : Cn) => TR d S w e x.ty.args) Cn.row 6 91 (fun y => G y ∧ y ≠ R ∧ (Value.slice a l.length c).ownBlock ≠ some y) base w (.slice a' cs.length c') cs) := by
  obtain ⟨h1, h2, hG, v, n, hb, hv, hvn, g1, g2⟩ := h
  obtain ⟨a, c, rfl, q1, q2⟩ := g1.shape
  obtain ⟨a', c', rfl, q3, q4⟩ := g2.shape
  exact ⟨a, c, a', c', q1, q2, q3, q4, h1, h2, hb.cell 0 _ rfl, hb.cell 1 _ rfl, hb.cell 2 _ rfl, hb.cell 3 _ rfl, hb, Gr.rdT (CR.good d) g1 (fun _ h => h.1) (fun y hy => (hv y hy).1), Gr.rdT (cn_good d) g2 (fun _ h => h.1) hvn, hG, hv, hvn, g1, g2⟩
theorem RCch.fresh (h : Blk w R [.slice none 0 0, .int .i64 cap, .int .i64 next, .slice none 0 0] 85) (h1 : R < base) (h2 : base ≤ w.heap.size) (hG : ∀ y, w.heap.size ≤ y → G y) : RCch G d w R base cap next [] [] :=
  ⟨h1, h2, hG, _, _, h, by intro y hy; simp [Value.ownBlock] at hy, by intro y hy; simp [Value.ownBlock] at hy, Gr.nil _ _ _, Gr.nil _ _ _⟩
end
theorem own_zeroN {W : World} {base g size : Nat} {e : TypeId} (h : W.heap[g]? = some (.cells #[] e (0, 0))) (hb : base ≤ g) : Own W base e size (.slice (some ⟨g, 0, none⟩) 0 0) [] :=
  ⟨⟨by simp, .inr ⟨g, 0, #[], rfl, hb, h, Nat.le_refl _, by simp [maxLen], by simp, by simp⟩⟩, by simp⟩
/-- Rows of codes, one at a time. -/
theorem Rd.code {d : Nat} {G : Nat → Prop} {w : World} {a : Option Addr} {n c : Nat} {l : List Cp} (h : Rd (fun S w e (x : Cp) => CR d S w e x) Cp.row 14 G w (.slice a n c) l) (hne : l ≠ []) :
    ∃ b off, a = some ⟨b, off, none⟩ ∧ G b ∧ b < w.heap.size ∧ ∀ (k : Nat) (x : Cp), l[k]? = some x → ∃ a1 c1 a2 c2, w.rangeAt b (off + k * 14) (x.row (.tuple #[.slice a1 x.ty.args.length c1, .slice a2 x.inl.length c2])) ∧ TR d G w (.slice a1 x.ty.args.length c1) x.ty.args ∧ Reads G w (.slice a2 x.inl.length c2) 1 (irows x.inl) ∧ x.inl.length ≤ 1000 := by
  obtain ⟨a', c', e, _, _, h3⟩ := h.form
  cases e
  obtain ⟨b, off, rfl, q1, q2, q3⟩ := h3.resolve_left hne
  refine ⟨b, off, rfl, q1, q2, fun k x hx => ?_⟩
  obtain ⟨e, hr, _, hc⟩ := q3 k x hx
  obtain ⟨a1, c1, a2, c2, rfl, z1, z2, z3⟩ := hc.pair
  exact ⟨a1, c1, a2, c2, hr, z1, z2, z3⟩
theorem Rd.count {d : Nat} {G : Nat → Prop} {w : World} {a : Option Addr} {n c : Nat} {l : List Cn} (h : Rd (fun S w e (x : Cn) => TR d S w e x.ty.args) Cn.row 6 G w (.slice a n c) l) (hne : l ≠ []) :
    ∃ b off, a = some ⟨b, off, none⟩ ∧ G b ∧ b < w.heap.size ∧ ∀ (k : Nat) (x : Cn), l[k]? = some x → ∃ a1 c1, w.rangeAt b (off + k * 6) (x.row (.slice a1 x.ty.args.length c1)) ∧ TR d G w (.slice a1 x.ty.args.length c1) x.ty.args := by
  obtain ⟨a', c', e, _, _, h3⟩ := h.form
  cases e
  obtain ⟨b, off, rfl, q1, q2, q3⟩ := h3.resolve_left hne
  refine ⟨b, off, rfl, q1, q2, fun k x hx => ?_⟩
  obtain ⟨e, hr, _, hc⟩ := q3 k x hx
  obtain ⟨a1, c1, rfl, _⟩ := hc.form
  exact ⟨a1, c1, hr, hc⟩

set_option maxRecDepth 100000 in
theorem refNew (c : Int) (w : World) : Calls Tryd.prog 28 #[.int .i64 c] w fun e w' => e = .returned (.pointer (some ⟨w.heap.size, 0, none⟩)) ∧ Blk w' w.heap.size [.slice none 0 0, .int .i64 (min (max c 0) 200), .int .i64 1, .slice none 0 0] 85 ∧ w'.heap.size = w.heap.size + 1 ∧ Kept [] w w' := by
  go_enter Tryd.func28, Tryd.ntmps28
  go_wp2
  all_goals
    go_ret
    refine ⟨rfl, ?_, by simp, (Kept.refl [] w).alloc _⟩
    first
      | (rw [show min (max c 0) 200 = 0 by omega]; exact Blk.new _ _ _)
      | (rw [show min (max c 0) 200 = 200 by omega]; exact Blk.new _ _ _)
      | (rw [show min (max c 0) 200 = c by omega]; exact Blk.new _ _ _)

set_option maxRecDepth 100000 in
set_option maxHeartbeats 1600000 in
theorem refIndex {G : Nat → Prop} (d : Nat) (R base : Nat) (cap next : Int) (l : List Cp) (cs : List Cn) (i : Int) (w : World) (h : RCch G d w R base cap next l cs) :
    Calls Tryd.prog 47 #[.pointer (some ⟨R, 0, none⟩), .int .i64 i] w fun e w' => w' = w ∧
      ((∃ k : Nat, e = .returned (.int .i64 k) ∧ ∃ x, Finds l i k x) ∨ (e = .returned (.int .i64 (-1)) ∧ Lacks l i l.length)) := by
  obtain ⟨a, c, a', c', g1, g2, g3, g4, g5, g6, e0, e1, e2, e3, HB, H5, HCS, HX⟩ := h.form
  have hbs := h.lt
  clear h e1 e2 e3 HB HCS HX g3 g4
  go_enter Tryd.func47, Tryd.ntmps47
  go_wp2
  go_loop [5] (fun q => ∃ k : Nat, k ≤ l.length ∧ q = .int .i64 k ∧ Hid (Lacks l i k)) (fun q => l.length - (intOf q).toNat)
  case atStart => exact ⟨0, Nat.zero_le _, rfl, fun j y hj => by omega⟩
  case round =>
    obtain ⟨k, hk, rfl, hno⟩ := hrel
    by_cases hlt : k < l.length
    · have hne : l ≠ [] := by rintro rfl; simp at hlt
      obtain ⟨b1, o1, rfl, hSb, hb1, hc1⟩ := H5.out.code hne
      obtain ⟨x, hx⟩ := getp l k hlt
      obtain ⟨a1, c1, a2, c2, hrx, _⟩ := hc1 k x hx
      have u0 : w.cell? ⟨b1, o1 + k * 14 + 0, none⟩ = some (.int .i64 x.id) := hrx 0 _ rfl
      rw [Nat.add_zero] at u0
      have HX := Lib.hid hx
      have hkc : k < c := by omega
      clear hrx hx hc1 hne H5 hSb
      go_wp2
      · go_ret
        have hxi : x.id = i := by have : (x.id == i) = true := by assumption
                                  simpa using this
        exact ⟨rfl, .inl ⟨k, rfl, x, HX.out, hxi, hno.out⟩⟩
      · go_round
        case rel =>
          have hxi : x.id ≠ i := by have : (x.id == i) = false := by assumption
                                    simpa using this
          exact ⟨k + 1, by omega, by go_num, hno.out.next HX.out hxi⟩
        case measure => simp [intOf]; omega
    · go_wp2
      go_ret
      refine ⟨rfl, .inr ⟨rfl, ?_⟩⟩
      have := hno.out
      rw [show k = l.length by omega] at this
      exact this

set_option maxRecDepth 100000 in
set_option maxHeartbeats 1600000 in
theorem refAvailable {G : Nat → Prop} (d : Nat) (R base : Nat) (cap next : Int) (l : List Cp) (cs : List Cn) (w : World) (h : RCch G d w R base cap next l cs) (h0 : 0 ≤ cap) (h1 : cap ≤ 1000) (hl : l.length ≤ 1000) :
    Calls Tryd.prog 37 #[.pointer (some ⟨R, 0, none⟩)] w fun e w' => e = .returned (.int .i64 (cap - l.length)) ∧ Kept [] w w' := by
  obtain ⟨a, c, a', c', g1, g2, g3, g4, g5, g6, e0, e1, e2, e3, HB, H5, HCS, HX⟩ := h.form
  have hbs := h.lt
  have hw : IntKind.i64.wrap (cap - l.length) = cap - l.length := IntWalk.i64_in _ (by omega)
  clear h e2 e3 HB HCS HX H5 g3 g4
  go_enter Tryd.func37, Tryd.ntmps37
  go_wp2
  go_quiet (fail)
  all_goals go_wp2
  all_goals
    go_ret
    exact ⟨rfl, (Kept.refl [] w).drewN _⟩

set_option maxRecDepth 100000 in
set_option maxHeartbeats 1600000 in
theorem refAll {G : Nat → Prop} (d : Nat) (R base : Nat) (cap next : Int) (l : List Cp) (cs : List Cn) (w : World) (h : RCch G d w R base cap next l cs) (hl : l.length ≤ 100000) :
    Calls Tryd.prog 39 #[.pointer (some ⟨R, 0, none⟩)] w fun e w' => ∃ v', e = .returned v' ∧ Rd (fun S w e (x : Cp) => CR d S w e x) Cp.row 14 (fun _ => True) w' v' l ∧ Kept [] w w' := by
  obtain ⟨a, c, a', c', g1, g2, g3, g4, g5, g6, e0, e1, e2, e3, HB, H5, HCS, HX⟩ := h.form
  have hbs := h.lt
  obtain ⟨i0, z0, hi, hz0, hz1, hz2, hz3⟩ := info_code'
  obtain ⟨es, n1, n2, n3⟩ := H5.out
  have hlen : (List.zipWith Cp.row l es).length = l.length := zip_len n1
  have N1 := Lib.hid n1
  have N2 := Lib.hid n2
  have N3 := Lib.hid n3
  have HLN := Lib.hid hlen
  clear h e1 e2 e3 HB HCS HX H5 g3 g4 n1 n2 n3 hlen
  go_enter Tryd.func39, Tryd.ntmps39
  go_wp2_with (refine wpList_append_rows rfl (.tmp 3) (.tmp 7) 48 43 rfl i0 z0 14 200 Tryd.underlying48 hi hz0 hz1 hz2 hz3 (by decide) w.heap.size (.slice (some ⟨w.heap.size, 0, none⟩) 0 0) [] (List.zipWith Cp.row l es) rfl (own_zeroN (halloc_new _ _ _ rfl) (Nat.le_refl _)) G _ rfl (N2.out.kept (M := []) (by repeat (first | exact Kept.refl _ _ | refine Kept.alloc ?_ _)) (by simp)) (by have := HLN.out; simp only [List.length_nil]; omega) (by have := HLN.out; simp only [List.length_nil]; omega) (by simp) ?_; intro v1 w1 ho1 hk1 _; have HO1 := Lib.hid ho1; have HK1 := Lib.hid hk1; clear ho1 hk1)
  go_ret
  have hk : Kept [] w w1 := ((Kept.refl [] w).alloc _).trans' (HK1.out [w.heap.size] (by intro x hx; simp [Value.ownBlock] at hx; simp [hx.symm])) (by simp)
  exact ⟨_, rfl, ⟨es, N1.out, by simpa using (HO1.out.rows').mono (fun _ _ _ => trivial), fun k x e hx he => (CR.good d).mono ((CR.good d).kept (N3.out k x e hx he) hk (by simp)) (fun _ _ _ => trivial)⟩, hk⟩
end Go.Proofs.YtkldomkooleecaaDoor
