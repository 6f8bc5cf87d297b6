/- The cache of compiled codes in memory; walks: New, index. -/
import Derived.Test.YtkldomkooleecaaDoorOwnK
namespace Go.Proofs.YtkldomkooleecaaDoor
open Go.RowKit

/-- A cache lies at b; all else of its own lies from base on, where F allows. -/
def Cch (F : Nat → Prop) (d : Nat) (w : World) (b base : Nat) (cap last : Int) (mp : Value) (l : List Cp) : Prop :=
  b < base ∧ base ≤ w.heap.size ∧ (∀ y, w.heap.size ≤ y → F y) ∧ ∃ v, Blk w b [.int .i64 cap, .int .i64 last, v, mp] 64 ∧ (∀ y, v.ownBlock = some y → F y) ∧ Gr (fun S w e (x : Cp) => CR d S w e x) Cp.row 14 43 (fun y => base ≤ y ∧ F y) base w v l

theorem Cch.fresh {F : Nat → Prop} {d : Nat} {w : World} {b base : Nat} {cap last : Int} {mp : Value} (h : Blk w b [.int .i64 cap, .int .i64 last, .slice none 0 0, mp] 64) (h1 : b < base) (h2 : base ≤ w.heap.size) (hF : ∀ y, w.heap.size ≤ y → F y) : Cch F d w b base cap last mp [] :=
  ⟨h1, h2, hF, _, h, by intro y hy; simp [Value.ownBlock] at hy, Gr.nil _ _ _⟩
theorem Cch.kept {F : Nat → Prop} {d : Nat} {w w' : World} {b base : Nat} {cap last : Int} {mp : Value} {l : List Cp} {M : List Nat} (h : Cch F d w b base cap last mp l) (k : Kept M w w') (hn : ∀ x ∈ M, x ≠ b ∧ (x < base ∨ ¬ F x)) : Cch F d w' b base cap last mp l := by
  obtain ⟨h1, h2, hF, v, hb, ho, hg⟩ := h
  exact ⟨h1, Nat.le_trans h2 k.size, fun y hy => hF y (Nat.le_trans k.size hy), v, hb.kept k (fun hx => (hn b hx).1 rfl), ho, hg.kept (CR.good d) k (fun x hx e => by have h3 := (hg.lt x e).1; have h4 := ho x e; rcases (hn x hx).2 with q | q; exact absurd h3 (by omega); exact q h4) (fun x hx hs => by rcases (hn x hx).2 with q | q; exact absurd hs.1 (by omega); exact q hs.2)⟩
theorem Cch.lt {F : Nat → Prop} {d : Nat} {w : World} {b base : Nat} {cap last : Int} {mp : Value} {l : List Cp} (h : Cch F d w b base cap last mp l) : b < w.heap.size := by
  obtain ⟨_, _, _, v, hb, _⟩ := h; exact hb.lt
/-- Another territory. -/
theorem Cch.move {F F' : Nat → Prop} {d : Nat} {w : World} {b base : Nat} {cap last : Int} {mp : Value} {l : List Cp} (h : Cch F d w b base cap last mp l) (h1 : ∀ y, y < w.heap.size → F y → F' y) (h2 : ∀ y, w.heap.size ≤ y → F' y) : Cch F' d w b base cap last mp l := by
  obtain ⟨g1, g2, _, v, hb, ho, hg⟩ := h
  exact ⟨g1, g2, h2, v, hb, fun y hy => h1 y (hg.lt y hy).2 (ho y hy), hg.mono (CR.good d) (Nat.le_refl _) (fun y hy hs => ⟨hs.1, h1 y hy hs.2⟩)⟩

theorem Gr.rdF {β : Type} {Q : (Nat → Prop) → World → Value → β → Prop} {r : β → Value → List Value} {size : Nat} {t : TypeId} {F : Nat → Prop} {base : Nat} {w : World} {v : Value} {l : List β} (hQ : Good Q) (h : Gr Q r size t (fun y => base ≤ y ∧ F y) base w v l) (ho : ∀ y, v.ownBlock = some y → F y) : Rd Q r size (fun y => base ≤ y ∧ F y) w v l := by
  obtain ⟨es, h1, h2, h3⟩ := h
  refine ⟨es, h1, ?_, fun k x e hx he => hQ.mono (h3 k x e hx he) fun _ _ h => h.1⟩
  obtain ⟨q1, a, cap, hv, q2, q3, q4⟩ := h2.rows'
  refine ⟨q1, a, cap, hv, q2, q3, ?_⟩
  rcases q4 with q4 | ⟨b, off, ha, hs, hb, hr⟩
  · exact .inl q4
  · refine .inr ⟨b, off, ha, ⟨hs, ?_⟩, hb, hr⟩
    rcases h2.row.2 with ⟨hv0, _⟩ | ⟨g, cap', cur, hv0, _⟩
    · have e := (Value.slice.inj (hv0.symm.trans hv)).1
      rw [← e] at ha
      cases ha
    · have e := (Value.slice.inj (hv0.symm.trans hv)).1
      rw [← e] at ha
      cases ha
      exact ho _ (by rw [hv0]; rfl)
theorem vfst_pair (a b : Value) : vfst (.tuple #[a, b]) = a := rfl
theorem vsnd_pair (a b : Value) : vsnd (.tuple #[a, b]) = b := rfl
theorem CR.pair {d : Nat} {S : Nat → Prop} {w : World} {e : Value} {x : Cp} (h : CR d S w e x) : ∃ a1 c1 a2 c2, e = .tuple #[.slice a1 x.ty.args.length c1, .slice a2 x.inl.length c2] ∧ TR d S w (.slice a1 x.ty.args.length c1) x.ty.args ∧ Reads S w (.slice a2 x.inl.length c2) 1 (irows x.inl) ∧ x.inl.length ≤ 1000 := by
  obtain ⟨a, b, rfl, h1, h2, h3⟩ := h
  obtain ⟨a1, c1, rfl, _⟩ := h1.form
  obtain ⟨a2, c2, rfl, _⟩ := h2.ints
  exact ⟨a1, c1, a2, c2, rfl, h1, h2, h3⟩

/-- What a walk needs of it. -/
theorem Cch.form {F : Nat → Prop} {d : Nat} {w : World} {b base : Nat} {cap last : Int} {mp : Value} {l : List Cp} (h : Cch F d w b base cap last mp l) : ∃ a c, l.length ≤ c ∧ c ≤ 9223372036854775807 ∧ b < base ∧ base ≤ w.heap.size ∧ Hid (∀ y, w.heap.size ≤ y → F y) ∧ Hid (∀ y, (Value.slice a l.length c).ownBlock = some y → F y) ∧
    w.cell? ⟨b, 0, none⟩ = some (.int .i64 cap) ∧ w.cell? ⟨b, 1, none⟩ = some (.int .i64 last) ∧ w.cell? ⟨b, 2, none⟩ = some (.slice a l.length c) ∧ w.cell? ⟨b, 3, none⟩ = some mp ∧
    Blk w b [.int .i64 cap, .int .i64 last, .slice a l.length c, mp] 64 ∧
    Gr (fun S w e (x : Cp) => CR d S w e x) Cp.row 14 43 (fun y => base ≤ y ∧ F y) base w (.slice a l.length c) l ∧
    (l = [] ∨ ∃ b' off, a = some ⟨b', off, none⟩ ∧ (base ≤ b' ∧ F b') ∧ b' < w.heap.size ∧ ∀ (k : Nat) (x : Cp), l[k]? = some x → ∃ a1 c1 a2 c2, w.rangeAt b' (off + k * 14) (x.row (.tuple #[.slice a1 x.ty.args.length c1, .slice a2 x.inl.length c2])) ∧ TR d (fun y => base ≤ y ∧ F y) w (.slice a1 x.ty.args.length c1) x.ty.args ∧ Reads (fun y => base ≤ y ∧ F y) w (.slice a2 x.inl.length c2) 1 (irows x.inl) ∧ x.inl.length ≤ 1000) := by
  obtain ⟨h1, h2, hF, v, hb, ho, hg⟩ := h
  have hrd := hg.rdF (CR.good d) ho
  obtain ⟨a, c, rfl, h3, h4, h5⟩ := hrd.form
  refine ⟨a, c, h3, h4, h1, h2, hF, ho, hb.cell 0 _ rfl, hb.cell 1 _ rfl, hb.cell 2 _ rfl, hb.cell 3 _ rfl, hb, hg, ?_⟩
  rcases h5 with h5 | ⟨b', off, rfl, h6, h7, h8⟩
  · exact .inl h5
  · refine .inr ⟨b', off, rfl, h6, h7, fun k x hx => ?_⟩
    obtain ⟨e, hr, _, hc⟩ := h8 k x hx
    obtain ⟨a1, c1, a2, c2, rfl, q1, q2, q3⟩ := hc.pair
    exact ⟨a1, c1, a2, c2, hr, q1, q2, q3⟩

theorem getp {α : Type} (l : List α) (k : Nat) (h : k < l.length) : ∃ x, l[k]? = some x := ⟨l[k], by simp⟩

/-- The first code with a number, or none. -/
def Finds (l : List Cp) (i : Int) (k : Nat) (x : Cp) : Prop := l[k]? = some x ∧ x.id = i ∧ ∀ (j : Nat) (y : Cp), j < k → l[j]? = some y → y.id ≠ i
def Lacks (l : List Cp) (i : Int) (n : Nat) : Prop := ∀ (j : Nat) (y : Cp), j < n → l[j]? = some y → y.id ≠ i
theorem Lacks.next {l : List Cp} {i : Int} {n : Nat} {x : Cp} (h : Lacks l i n) (hx : l[n]? = some x) (hi : x.id ≠ i) : Lacks l i (n + 1) := by
  intro j y hj hy
  rcases Nat.lt_or_eq_of_le (Nat.le_of_lt_succ hj) with h1 | rfl
  · exact h j y h1 hy
  · rw [hx] at hy; cases hy; exact hi

set_option maxRecDepth 100000 in
theorem cacheNew (c : Int) (w : World) (h0 : 0 ≤ c) (h1 : c ≤ 200) : Calls Tryd.prog 7 #[.int .i64 c] w fun e w' => e = .returned (.pointer (some ⟨w.heap.size + 1, 0, none⟩)) ∧ Blk w' (w.heap.size + 1) [.int .i64 c, .int .i64 0, .slice none 0 0, .map (some w.heap.size)] 64 ∧ w'.heap[w.heap.size]? = some (.map #[] 0) ∧ w'.heap.size = w.heap.size + 2 ∧ Kept [] w w' := by
  have hmm := @run_makeMap Tryd.prog
  have q1 : max c 0 = c := by omega
  have q2 : min c 200 = c := by omega
  go_enter Tryd.func7, Tryd.ntmps7
  go_wp2
  go_ret
  exact ⟨rfl, halloc_new _ _ _ (by simp), (halloc_old _ _ _ (by simp)).trans (halloc_new _ _ _ rfl), by simp, ((Kept.refl [] w).alloc _).alloc _⟩

set_option maxRecDepth 100000 in
set_option maxHeartbeats 1600000 in
theorem cacheIndex {F : Nat → Prop} (d : Nat) (b base : Nat) (cap last : Int) (mp : Value) (l : List Cp) (i : Int) (w : World) (h : Cch F d w b base cap last mp l) :
    Calls Tryd.prog 23 #[.pointer (some ⟨b, 0, none⟩), .int .i64 i] w fun e w' => Kept [] w w' ∧
      ((∃ k : Nat, e = .returned (.int .i64 k) ∧ ∃ x, Finds l i k x) ∨ (e = .returned (.int .i64 (-1)) ∧ Lacks l i l.length)) := by
  obtain ⟨a, c, h1, h2, h3, h4, g5, g6, e0, e1, e2, e3, hb, hg, h5⟩ := h.form
  have H5 := Lib.hid h5
  clear h hb hg h5 e0 e1 e3
  go_enter Tryd.func23, Tryd.ntmps23
  go_wp2
  go_loopw [12] (fun q wr => ∃ k : Nat, k ≤ l.length ∧ q = .int .i64 k ∧ Kept [] w wr ∧ Hid (Lacks l i k)) (fun q _ => l.length - (intOf q).toNat)
  case atStart => exact ⟨0, Nat.zero_le _, rfl, Kept.refl _ _, fun j y hj => by omega⟩
  case round =>
    obtain ⟨k, hk, rfl, hkr, hno⟩ := hrel
    by_cases hlt : k < l.length
    · have hne : l ≠ [] := by rintro rfl; simp at hlt
      obtain ⟨b1, o1, rfl, hSb, hb1, hc1⟩ := H5.out.resolve_left hne
      obtain ⟨x, hx⟩ := getp l k hlt
      obtain ⟨a1, c1, a2, c2, hrx, _⟩ := hc1 k x hx
      have hrg := hkr.range hrx (by simp)
      obtain ⟨xi, xm, xt, xf, xu, xl⟩ := x
      simp only [Cp.row, vfst_pair, vsnd_pair] at hrg hrx
      have HRG := Lib.hid hrg
      have HX := Lib.hid hx
      clear hrg hrx hx hc1 hne H5
      go_wp2_with (first
        | (refine wpList_load_mid rfl 43 (.tmp 15) rfl b1 (o1 + k * 14) rfl [.int .i64 xi, .int .i64 xm, .int .i64 xt.kind, .string xt.name, .int .i64 xt.index, .slice a1 xt.args.length c1, .int .i64 xf, .int .i64 xu, .int .i64 0, .int .i64 0, .slice none 0 0, .slice none 0 0, .slice none 0 0, .slice a2 xl.length c2] _ HRG.out Tryd.underlying43 rfl (by kernel_rfl) ?_))
      · go_ret
        have hxi : xi = i := by have : (xi == i) = true := by assumption
                                simpa using this
        exact ⟨hkr.alloc _, .inl ⟨k, rfl, _, HX.out, hxi, hno.out⟩⟩
      · go_roundw
        case rel =>
          have hxi : xi ≠ i := by have : (xi == i) = false := by assumption
                                  simpa using this
          exact ⟨k + 1, by omega, by go_num, hkr.alloc _, hno.out.next HX.out hxi⟩
        case measure => simp [intOf]; omega
    · go_wp2
      go_ret
      refine ⟨hkr, .inr ⟨rfl, ?_⟩⟩
      have := hno.out
      rw [show k = l.length by omega] at this
      exact this
end Go.Proofs.YtkldomkooleecaaDoor
