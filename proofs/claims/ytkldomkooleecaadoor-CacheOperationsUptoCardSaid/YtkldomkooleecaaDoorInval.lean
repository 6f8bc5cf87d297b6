/- Walks over the cache: Available, Invalidate. -/
import Derived.Test.YtkldomkooleecaaDoorCacheC
import Derived.Laws.OwnMore
namespace Go.Proofs.YtkldomkooleecaaDoor
open Go.RowKit

set_option maxRecDepth 100000 in
set_option maxHeartbeats 1600000 in
theorem cacheAvailable {F : Nat → Prop} (d : Nat) (b base : Nat) (cap last : Int) (mp : Value) (l : List Cp) (w : World) (h : Cch F d w b base cap last mp l) (h0 : 0 ≤ cap) (h1 : cap ≤ 1000) (hl : l.length ≤ 1000) :
    Calls Tryd.prog 17 #[.pointer (some ⟨b, 0, none⟩)] w fun e w' => e = .returned (.int .i64 (cap - l.length)) ∧ Kept [] w w' := by
  have hbs := h.lt
  obtain ⟨a, c, g1, g2, g3, g4, g5, g6, e0, e1, e2, e3, hb, hg, h5⟩ := h.form
  have hw : IntKind.i64.wrap (cap - l.length) = cap - l.length := IntWalk.i64_in _ (by omega)
  clear h hb hg h5 e1 e3
  go_enter Tryd.func17, Tryd.ntmps17
  go_wp2
  go_quiet (fail)
  all_goals go_wp2
  all_goals
    go_ret
    exact ⟨rfl, (Kept.refl [] w).drewN _⟩

/-- A row's cell written anew. -/
theorem set_flat {size : Nat} : ∀ (rs : List (List Value)) (k j : Nat) (r : List Value) (v : Value), (∀ r ∈ rs, r.length = size) → rs[k]? = some r → j < size → rs.flatten.set (k * size + j) v = (rs.set k (r.set j v)).flatten
  | [], k, j, r, v, _, h, _ => by simp at h
  | q :: rs, 0, j, r, v, hs, h, hj => by
    simp at h
    subst h
    have hq := hs q (by simp)
    rw [Nat.zero_mul, Nat.zero_add, List.flatten_cons, List.set_append_left _ _ (by omega)]
    rfl
  | q :: rs, k + 1, j, r, v, hs, h, hj => by
    have hq := hs q (by simp)
    rw [List.flatten_cons, List.set_append_right _ _ (by rw [hq, Nat.add_mul]; omega), hq, show (k + 1) * size + j - size = k * size + j by rw [Nat.add_mul]; omega, set_flat rs k j r v (fun r hr => hs r (by simp [hr])) (by simpa using h) hj]
    rfl

theorem Own.put {w : World} {base g n cap size k j : Nat} {e : TypeId} {rs : List (List Value)} {r : List Value} {v : Value} (h : Own w base e size (.slice (some ⟨g, 0, none⟩) n cap) rs) (hr : rs[k]? = some r) (hj : j < size) (hv : v.oneCell' = true) :
    Own (w.setCell ⟨g, k * size + j, none⟩ v) base e size (.slice (some ⟨g, 0, none⟩) n cap) (rs.set k (r.set j v)) := by
  obtain ⟨_, _, hsh, _⟩ := h.shape
  obtain ⟨_, rfl, _⟩ := Value.slice.inj hsh
  have hrow := h.row
  have hs := (hrow.stored (k * size + j) v).1
  rw [set_flat rs k j r v (fun q hq => (h.each q hq).1) hr hj] at hs
  refine ⟨by simpa using hs, fun q hq => ?_⟩
  rcases List.mem_or_eq_of_mem_set hq with hq | rfl
  · exact h.each q hq
  · have h1 := h.each r (List.mem_of_getElem? hr)
    refine ⟨by simpa using h1.1, fun u hu => ?_⟩
    rcases List.mem_or_eq_of_mem_set hu with hu | rfl
    · exact h1.2 u hu
    · exact hv

/-- The codes with the k-th ended. -/
def endAt (l : List Cp) (k : Nat) (x : Cp) (wd : Int) : List Cp := l.set k { x with unt := wd }
theorem zip_set {β : Type} {r : β → Value → List Value} : ∀ (l : List β) (es : List Value) (k : Nat) (x' : β) (q : List Value), (∀ e, es[k]? = some e → q = r x' e) → List.zipWith r (l.set k x') es = (List.zipWith r l es).set k q
  | [], es, k, x', q, _ => by simp
  | x :: l, [], k, x', q, _ => by simp
  | x :: l, e :: es, 0, x', q, h => by simp [h e rfl]
  | x :: l, e :: es, k + 1, x', q, h => by simp [zip_set (r := r) l es k x' q (fun e' he => h e' (by simpa using he))]

/-- A cell of a row written anew. -/
theorem Gr.put {β : Type} {Q : (Nat → Prop) → World → Value → β → Prop} {r : β → Value → List Value} {size : Nat} {t : TypeId} {S : Nat → Prop} {base : Nat} {w : World} {g n cap k j : Nat} {l : List β} {x x' : β} {v : Value} (hQ : Good Q)
    (h : Gr Q r size t S base w (.slice (some ⟨g, 0, none⟩) n cap) l) (hx : l[k]? = some x) (hj : j < size) (hv : v.oneCell' = true) (hr : ∀ e, r x' e = (r x e).set j v) (hq : ∀ S w e, Q S w e x → Q S w e x') :
    Gr Q r size t S base (w.setCell ⟨g, k * size + j, none⟩ v) (.slice (some ⟨g, 0, none⟩) n cap) (l.set k x') := by
  obtain ⟨es, h1, h2, h3⟩ := h
  obtain ⟨e, he, hz⟩ := zip_get (r := r) h1 hx
  have hk : Kept [g] w (w.setCell ⟨g, k * size + j, none⟩ v) := (Kept.refl _ _).setCell (by simp) _
  refine ⟨es, by simp [h1], ?_, fun i y e' hy he' => ?_⟩
  · have := h2.put (j := j) hz hj hv
    rw [zip_set (r := r) l es k _ ((r x e).set j v) (fun e' he' => by rw [he] at he'; cases he'; exact (hr _).symm)]
    exact this
  · have hown : ∀ z : β, Q (fun y => S y ∧ (Value.slice (some ⟨g, 0, none⟩) n cap).ownBlock ≠ some y) w e' z → Q (fun y => S y ∧ (Value.slice (some ⟨g, 0, none⟩) n cap).ownBlock ≠ some y) (w.setCell ⟨g, k * size + j, none⟩ v) e' z :=
      fun z hz => hQ.kept hz hk (by intro y hy hq; simp at hy; subst hy; exact hq.2 rfl)
    rw [List.getElem?_set] at hy
    split at hy
    · rename_i hkj
      subst hkj
      split at hy
      · cases hy
        exact hq _ _ _ (hown _ (h3 k x e' hx he'))
      · cases hy
    · exact hown _ (h3 i y e' hy he')
theorem Gr.blockG {β : Type} {Q : (Nat → Prop) → World → Value → β → Prop} {r : β → Value → List Value} {size : Nat} {t : TypeId} {S : Nat → Prop} {base : Nat} {w : World} {v : Value} {l : List β} (h : Gr Q r size t S base w v l) (hne : l ≠ []) : ∃ g cap, v = .slice (some ⟨g, 0, none⟩) l.length cap ∧ base ≤ g ∧ g < w.heap.size ∧ ∀ k, w.frozen? ⟨g, k, none⟩ = false := by
  obtain ⟨es, h1, h2, _⟩ := h
  rcases h2.row.2 with ⟨_, h0⟩ | ⟨g, cap, cur, rfl, hb, hg, _⟩
  · rw [zip_len h1] at h0
    exact absurd (List.eq_nil_of_length_eq_zero h0) hne
  · refine ⟨g, cap, by rw [zip_len h1], hb, (Array.getElem?_eq_some_iff.1 hg).1, fun k => by simp [World.frozen?, hg]⟩
theorem Gr.ended {S : Nat → Prop} {d : Nat} {base : Nat} {w : World} {g n cap k : Nat} {l : List Cp} {x : Cp} {wd : Int} (h : Gr (fun S w e (x : Cp) => CR d S w e x) Cp.row 14 43 S base w (.slice (some ⟨g, 0, none⟩) n cap) l) (hx : l[k]? = some x) :
    Gr (fun S w e (x : Cp) => CR d S w e x) Cp.row 14 43 S base (w.setCell ⟨g, k * 14 + 7, none⟩ (.int .i64 wd)) (.slice (some ⟨g, 0, none⟩) n cap) (endAt l k x wd) :=
  Gr.put (CR.good d) h hx (by decide) rfl (fun _ => rfl) (fun _ _ _ h => h)

set_option maxRecDepth 100000 in
set_option maxHeartbeats 3200000 in
theorem cacheInvalidate {F : Nat → Prop} (d : Nat) (b base : Nat) (cap last : Int) (mp : Value) (l : List Cp) (i wd : Int) (w : World) (h : Cch F d w b base cap last mp l) (hll : l.length ≤ 100000) :
    Calls Tryd.prog 10 #[.pointer (some ⟨b, 0, none⟩), .int .i64 i, .int .i64 wd] w fun e w' => (e = .returned (.int .i64 7) ∧ Lacks l i l.length ∧ Kept [] w w') ∨ (∃ k x, Finds l i k x ∧
      ((x.unt ≠ 0 ∧ e = .returned (.int .i64 6) ∧ Kept [] w w') ∨ (x.unt = 0 ∧ wd ≤ x.frm ∧ e = .returned (.int .i64 1) ∧ Kept [] w w') ∨
       (x.unt = 0 ∧ x.frm < wd ∧ e = .returned (.int .i64 0) ∧ Cch F d w' b base cap last mp (endAt l k x wd) ∧ ∃ g n c, w.cell? ⟨b, 2, none⟩ = some (.slice (some ⟨g, 0, none⟩) n c) ∧ base ≤ g ∧ Kept [g] w w'))) := by
  have H := Lib.hid h
  have hbs := h.lt
  clear h
  go_enter Tryd.func10, Tryd.ntmps10
  go_wp2_with fail
  refine Calls.mono (cacheIndex d b base cap last mp l i _ (by exact H.out)) ?_
  rintro e w1 ⟨hk1, ⟨k, rfl, x, hf⟩ | ⟨rfl, hno⟩⟩
  · obtain ⟨a, c, g1, g2, g3, g4, g5, g6, e0, e1, e2, e3, hb, hg, h5⟩ := (H.out.kept hk1 (by simp)).form
    have hlt : k < l.length := (List.getElem?_eq_some_iff.1 hf.1).1
    have hne : l ≠ [] := by rintro rfl; simp at hlt
    obtain ⟨g, cap', hsl, hgb, hgl, hfr⟩ := hg.blockG hne
    obtain ⟨rfl, _, rfl⟩ := Value.slice.inj hsl
    obtain ⟨b1, o1, hab, hSb, hb1, hc1⟩ := h5.resolve_left hne
    cases hab
    obtain ⟨a1, c1, a2, c2, hrx, _⟩ := hc1 k x hf.1
    have u6 : w1.cell? ⟨g, 0 + k * 14 + 6, none⟩ = some (.int .i64 x.frm) := hrx 6 _ rfl
    have u7 : w1.cell? ⟨g, 0 + k * 14 + 7, none⟩ = some (.int .i64 x.unt) := hrx 7 _ rfl
    rw [Nat.zero_add] at u6 u7
    have f7 := hfr (k * 14 + 7)
    have HE2 := Lib.hid ((hk1.cell (p := ⟨b, 2, none⟩) hbs (by simp)).symm.trans e2)
    have HE2 := Lib.hid ((hk1.cell (p := ⟨b, 2, none⟩) hbs (by simp)).symm.trans e2)
    have HE2 := Lib.hid ((hk1.cell (p := ⟨b, 2, none⟩) hbs (by simp)).symm.trans e2)
    have HE2 := Lib.hid ((hk1.cell (p := ⟨b, 2, none⟩) hbs (by simp)).symm.trans e2)
    have HE2 := Lib.hid ((hk1.cell (p := ⟨b, 2, none⟩) hbs (by simp)).symm.trans e2)
    have HB := Lib.hid hb
    have HG := Lib.hid hg
    have HF := Lib.hid hf
    have HNE := Lib.hid hne
    clear hrx hc1 h5 hb hg hf hne hsl e0 e1 e3 hfr
    by_cases hu : x.unt = 0
    · have hub : (x.unt != 0) = false := by simpa using hu
      have HU := Lib.hid hu
      clear hu
      by_cases hw : wd ≤ x.frm
      · have hwb : decide (wd ≤ x.frm) = true := by simpa using hw
        go_wp2
        go_ret
        exact .inr ⟨k, x, HF.out, .inr (.inl ⟨HU.out, hw, rfl, hk1⟩)⟩
      · have hwb : decide (wd ≤ x.frm) = false := by simpa using hw
        go_wp2
        go_ret
        refine .inr ⟨k, x, HF.out, .inr (.inr ⟨HU.out, by omega, rfl, ⟨g3, by simpa using g4, fun y hy => g5.out y (by simpa using hy), _, HB.out.far (by simp; omega) _, g6.out, HG.out.ended HF.out.1⟩, g, _, _, HE2.out, hgb, hk1.nil.setCell (by simp) _⟩)⟩
    · have hub : (x.unt != 0) = true := by simpa using hu
      have HU := Lib.hid hu
      clear hu
      go_wp2
      go_ret
      exact .inr ⟨k, x, HF.out, .inl ⟨HU.out, rfl, hk1⟩⟩
  · go_wp2
    go_ret
    exact .inl ⟨rfl, hno, hk1⟩

set_option maxRecDepth 100000 in
set_option maxHeartbeats 3200000 in
/-- A code that is not there, or has not ended, is not removed. -/
theorem cacheRemoveBad {F : Nat → Prop} (d : Nat) (b base : Nat) (cap last : Int) (mp : Value) (l : List Cp) (i : Int) (w : World) (h : Cch F d w b base cap last mp l) (hll : l.length ≤ 100000) (hbad : ∀ k x, Finds l i k x → x.unt = 0) :
    Calls Tryd.prog 11 #[.pointer (some ⟨b, 0, none⟩), .int .i64 i] w fun e w' => ((e = .returned (.int .i64 7) ∧ Lacks l i l.length) ∨ (e = .returned (.int .i64 10) ∧ ∃ k x, Finds l i k x)) ∧ Kept [] w w' := by
  have H := Lib.hid h
  have HBAD := Lib.hid hbad
  have hbs := h.lt
  clear h hbad
  go_enter Tryd.func11, Tryd.ntmps11
  go_wp2_with fail
  refine Calls.mono (cacheIndex d b base cap last mp l i _ (by exact H.out)) ?_
  rintro e w1 ⟨hk1, ⟨k, rfl, x, hf⟩ | ⟨rfl, hno⟩⟩
  · obtain ⟨a, c, g1, g2, g3, g4, g5, g6, e0, e1, e2, e3, hb, hg, h5⟩ := (H.out.kept hk1 (by simp)).form
    have hlt : k < l.length := (List.getElem?_eq_some_iff.1 hf.1).1
    have hne : l ≠ [] := by rintro rfl; simp at hlt
    obtain ⟨b1, o1, rfl, hSb, hb1, hc1⟩ := h5.resolve_left hne
    obtain ⟨a1, c1, a2, c2, hrx, _⟩ := hc1 k x hf.1
    have u7 : w1.cell? ⟨b1, o1 + k * 14 + 7, none⟩ = some (.int .i64 x.unt) := hrx 7 _ rfl
    have hu := HBAD.out k x hf
    have hub : (x.unt == 0) = true := by simpa using hu
    have HF := Lib.hid hf
    clear hrx hc1 h5 hb hg hf hne e0 e1 e3 hu
    go_wp2
    go_ret
    exact ⟨.inr ⟨rfl, k, x, HF.out⟩, hk1⟩
  · have HNO := Lib.hid hno
    clear hno
    go_wp2
    go_ret
    exact ⟨.inl ⟨rfl, HNO.out⟩, hk1⟩
end Go.Proofs.YtkldomkooleecaaDoor
