/- The operations on the two caches side by side. -/
import Derived.Test.YtkldomkooleecaaDoorPlayS
namespace Go.Proofs.YtkldomkooleecaaDoor
open Go.RowKit Go.Maps Go.MapKept

set_option maxRecDepth 100000 in
theorem cacheNewAny (c : Int) (w : World) : Calls Tryd.prog 7 #[.int .i64 c] w fun e w' => e = .returned (.pointer (some ⟨w.heap.size + 1, 0, none⟩)) ∧ Blk w' (w.heap.size + 1) [.int .i64 (min (max c 0) 200), .int .i64 0, .slice none 0 0, .map (some w.heap.size)] 64 ∧ w'.heap[w.heap.size]? = some (.map #[] 0) ∧ w'.heap.size = w.heap.size + 2 ∧ Kept [] w w' := by
  have hmm := @run_makeMap Tryd.prog
  go_enter Tryd.func7, Tryd.ntmps7
  go_wp2
  all_goals
    go_ret
    refine ⟨rfl, ?_, ?_, by simp, ((Kept.refl [] w).alloc _).alloc _⟩
    rotate_left
    · exact (halloc_old _ _ _ (by simp)).trans (halloc_new _ _ _ rfl)
    first
      | exact halloc_new _ _ _ (by simp)
      | (rw [show min (max c 0) 200 = 0 by omega]; exact halloc_new _ _ _ (by simp))
      | (rw [show min (max c 0) 200 = 200 by omega]; exact halloc_new _ _ _ (by simp))
      | (rw [show min (max c 0) 200 = c by omega]; exact halloc_new _ _ _ (by simp))

set_option maxRecDepth 100000 in
set_option maxHeartbeats 3200000 in
theorem cacheAddRange (b : Nat) (xi xm tk : Int) (tn : ByteArray) (ti xf xu : Int) (a1 a2 : Option Addr) (n1 n2 c1 c2 : Nat) (w : World) (hb : xm < 1 ∨ xf < 1 ∨ (xu ≠ 0 ∧ xu ≤ xf)) :
    Calls Tryd.prog 9 #[.pointer (some ⟨b, 0, none⟩), .agg #[.int .i64 xi, .int .i64 xm, .int .i64 tk, .string tn, .int .i64 ti, .slice a1 n1 c1, .int .i64 xf, .int .i64 xu, .int .i64 0, .int .i64 0, .slice none 0 0, .slice none 0 0, .slice none 0 0, .slice a2 n2 c2]] w fun e w' => e = .returned (.tuple #[.int .i64 0, .int .i64 1]) ∧ Kept [] w w' := by
  rcases bad_cases hb with q1 | ⟨q1, q2⟩ | ⟨q1, q2, q3, q4⟩
  all_goals
    clear hb
    go_enter Tryd.func9, Tryd.ntmps9
    go_wp2
    go_ret2
    exact ⟨rfl, (Kept.refl [] w).alloc _⟩
set_option maxRecDepth 100000 in
set_option maxHeartbeats 3200000 in
theorem cacheAddFull {F : Nat → Prop} (d : Nat) (b base : Nat) (cap last : Int) (mp : Value) (l : List Cp) (xi xm tk : Int) (tn : ByteArray) (ti xf xu : Int) (a1 a2 : Option Addr) (n1 n2 c1 c2 : Nat) (w : World)
    (h : Cch F d w b base cap last mp l) (hm : 1 ≤ xm) (hf : 1 ≤ xf) (hu : xu = 0 ∨ xf < xu) (hcap : cap ≤ (l.length : Int)) :
    Calls Tryd.prog 9 #[.pointer (some ⟨b, 0, none⟩), .agg #[.int .i64 xi, .int .i64 xm, .int .i64 tk, .string tn, .int .i64 ti, .slice a1 n1 c1, .int .i64 xf, .int .i64 xu, .int .i64 0, .int .i64 0, .slice none 0 0, .slice none 0 0, .slice none 0 0, .slice a2 n2 c2]] w fun e w' => e = .returned (.tuple #[.int .i64 0, .int .i64 8]) ∧ Kept [] w w' := by
  have hbl := h.lt
  obtain ⟨a, c, g1, g2, g3, g4, g5, g6, e0, e1, e2, e3, hb, hg, h5⟩ := h.form
  clear h hb hg h5 e1 e3 g5 g6
  have q1 : decide (xm < 1) = false := by simp; omega
  have q2 : decide (xf < 1) = false := by simp; omega
  have q3 : (xu = 0) ∨ ((xu != 0) = true ∧ decide (xu ≤ xf) = false) := by
    rcases hu with hu | hu
    · exact .inl hu
    · exact .inr ⟨by simp; omega, by simpa using hu⟩
  have q4 : decide ((l.length : Int) ≥ cap) = true := by simpa using hcap
  clear hu
  rcases q3 with rfl | ⟨q3, q5⟩
  all_goals
    go_enter Tryd.func9, Tryd.ntmps9
    go_wp2
    go_quiet (fail)
  all_goals go_wp2
  all_goals
    go_ret2
    exact ⟨rfl, ((Kept.refl [] w).alloc _).drewN _⟩

section
variable {B mb R base d : Nat} {cap last next : Int} {l l2 : List Cp} {cm cs : List Cn} {S : Nat → Prop}

theorem psAdd (xi xm tk : Int) (tn : ByteArray) (ti xf xu : Int) (ta : List Ty) (xl : List Int) (a1 a2 : Option Addr) (c1 c2 : Nat) (w : World) (h : PSt B mb R base d w cap last l cm next l2 cs) (h0 : 0 ≤ last) (h1 : last ≤ 1000000) (hll : l.length ≤ 100000)
    (ht : TR d S w (.slice a1 ta.length c1) ta) (hi : Reads S w (.slice a2 xl.length c2) 1 (irows xl)) (hl : xl.length ≤ 1000) (hS : ∀ y, S y → Free w B mb R y) :
    Calls Tryd.prog 9 #[.pointer (some ⟨B, 0, none⟩), .agg #[.int .i64 xi, .int .i64 xm, .int .i64 tk, .string tn, .int .i64 ti, .slice a1 ta.length c1, .int .i64 xf, .int .i64 xu, .int .i64 0, .int .i64 0, .slice none 0 0, .slice none 0 0, .slice none 0 0, .slice a2 xl.length c2]] w fun e w' =>
      e = .returned (.tuple #[.int .i64 (addI cap l xm xf xu (last + 1)), .int .i64 (addE cap l xm xf xu)]) ∧ PSt B mb R base d w' cap (addN cap l xm xf xu last) (addL cap l xm xf xu (last + 1) (.mk tk tn ti ta) xl) cm next l2 cs ∧ Step B mb R w w' := by
  unfold addI addN addL
  rcases add_cases cap l xm xf xu with ⟨q, hb⟩ | ⟨q, hm, hf, hu, hc⟩ | ⟨q, hm, hf, hu, hc⟩
  · rw [q]
    refine (cacheAddRange B xi xm tk tn ti xf xu a1 a2 ta.length xl.length c1 c2 w hb).mono ?_
    rintro e w' ⟨rfl, hk⟩
    exact ⟨rfl, (h.kept0 hk).1, (h.kept0 hk).2⟩
  · rw [q]
    refine (cacheAddFull d B base cap last _ l xi xm tk tn ti xf xu a1 a2 ta.length xl.length c1 c2 w h.cch hm hf hu hc).mono ?_
    rintro e w' ⟨rfl, hk⟩
    exact ⟨rfl, (h.kept0 hk).1, (h.kept0 hk).2⟩
  · rw [q]
    refine (cacheAddOwn d B base cap last _ l xi xm tk tn ti xf xu ta xl a1 a2 c1 c2 w h.cch hm hf hu hc h0 h1 hll ht hi hl (fun hs => (hS B hs).2.1 rfl)).mono ?_
    rintro e w' ⟨rfl, hc', ⟨v, v', hv, hv', ho, hlo, hk⟩⟩
    have := h.cop hc' (.mk _ (fun y hy => (List.mem_cons.1 hy).imp id (fun q => (OwnAt.of hv y).2 (by simpa using q))) hk (fun y hy => (ho y ((OwnAt.of hv' y).1 hy)).imp (OwnAt.of hv y).2 id))
    exact ⟨rfl, this.1, this.2⟩

theorem psRAdd (xi xm tk : Int) (tn : ByteArray) (ti xf xu : Int) (ta : List Ty) (xl : List Int) (a1 a2 : Option Addr) (c1 c2 : Nat) (w : World) (h : PSt B mb R base d w cap last l cm next l2 cs) (h0 : 0 ≤ next) (h1 : next ≤ 1000000) (hll : l2.length ≤ 100000)
    (ht : TR d S w (.slice a1 ta.length c1) ta) (hi : Reads S w (.slice a2 xl.length c2) 1 (irows xl)) (hl : xl.length ≤ 1000) (hS : ∀ y, S y → Free w B mb R y) :
    Calls Tryd.prog 29 #[.pointer (some ⟨R, 0, none⟩), .agg #[.int .i64 xi, .int .i64 xm, .int .i64 tk, .string tn, .int .i64 ti, .slice a1 ta.length c1, .int .i64 xf, .int .i64 xu, .int .i64 0, .int .i64 0, .slice none 0 0, .slice none 0 0, .slice none 0 0, .slice a2 xl.length c2]] w fun e w' =>
      e = .returned (.tuple #[.int .i64 (addI cap l2 xm xf xu next), .int .i64 (addE cap l2 xm xf xu)]) ∧ PSt B mb R base d w' cap last l cm (addN cap l2 xm xf xu next) (addL cap l2 xm xf xu next (.mk tk tn ti ta) xl) cs ∧ Step B mb R w w' := by
  unfold addI addN addL
  rcases add_cases cap l2 xm xf xu with ⟨q, hb⟩ | ⟨q, hm, hf, hu, hc⟩ | ⟨q, hm, hf, hu, hc⟩
  · rw [q]
    refine (refAddRange R xi xm tk tn ti xf xu a1 a2 ta.length xl.length c1 c2 w hb).mono ?_
    rintro e w' ⟨rfl, hk⟩
    exact ⟨rfl, (h.kept0 hk).1, (h.kept0 hk).2⟩
  · rw [q]
    refine (refAddFull d R base cap next l2 cs xi xm tk tn ti xf xu a1 a2 ta.length xl.length c1 c2 w h.rch hm hf hu hc).mono ?_
    rintro e w' ⟨rfl, hk⟩
    exact ⟨rfl, (h.kept0 hk).1, (h.kept0 hk).2⟩
  · rw [q]
    refine (refAdd d (S := S) R base cap next l2 cs xi xm tk tn ti xf xu ta xl a1 a2 c1 c2 w h.rch hm hf hu hc h0 h1 hll ht hi hl (fun y _ hs => ?_)).mono ?_
    · obtain ⟨_, q2, q3, q4, q5, q6, q7⟩ := hS y hs
      exact ⟨⟨q2, q3, q5⟩, q4, q6, q7⟩
    · rintro e w' ⟨rfl, hc', ht'⟩
      have := h.rop hc' ht'
      exact ⟨rfl, this.1, this.2⟩

theorem psInv (i wd : Int) (w : World) (h : PSt B mb R base d w cap last l cm next l2 cs) (hll : l.length ≤ 100000) :
    Calls Tryd.prog 10 #[.pointer (some ⟨B, 0, none⟩), .int .i64 i, .int .i64 wd] w fun e w' => e = .returned (.int .i64 (invE l i wd)) ∧ PSt B mb R base d w' cap last (invL l i wd) cm next l2 cs ∧ Step B mb R w w' := by
  refine (cacheInvalidate d B base cap last _ l i wd w h.cch hll).mono ?_
  rintro e w' (⟨rfl, hn, hk⟩ | ⟨k, x, hf, hx⟩)
  · obtain ⟨q1, q2⟩ := invE_lacks (wd := wd) hn
    rw [q1, q2]
    exact ⟨rfl, (h.kept0 hk).1, (h.kept0 hk).2⟩
  · obtain ⟨q1, q2⟩ := invE_finds (wd := wd) hf
    rw [q1, q2]
    rcases hx with ⟨hu, rfl, hk⟩ | ⟨hu, hw, rfl, hk⟩ | ⟨hu, hw, rfl, hc, g, n, c, hv, hg, hk⟩
    · rw [if_pos hu, if_pos hu]
      exact ⟨rfl, (h.kept0 hk).1, (h.kept0 hk).2⟩
    · rw [if_neg (by simpa using hu), if_pos hw, if_neg (by simpa using hu), if_pos hw]
      exact ⟨rfl, (h.kept0 hk).1, (h.kept0 hk).2⟩
    · rw [if_neg (by simpa using hu), if_neg (by omega), if_neg (by simpa using hu), if_neg (by omega)]
      have hBb := h.cch.1
      have := h.cop hc (.mk [g] (fun y hy => .inr (by simp at hy; subst hy; exact ⟨_, hv, rfl⟩)) hk (fun y hy => .inl ((OwnAt.kept hv hk (by simp; omega) y).1 hy)))
      exact ⟨rfl, this.1, this.2⟩
theorem psRInv (i wd : Int) (w : World) (h : PSt B mb R base d w cap last l cm next l2 cs) :
    Calls Tryd.prog 34 #[.pointer (some ⟨R, 0, none⟩), .int .i64 i, .int .i64 wd] w fun e w' => e = .returned (.int .i64 (invE l2 i wd)) ∧ PSt B mb R base d w' cap last l cm next (invL l2 i wd) cs ∧ Step B mb R w w' := by
  refine (refInvalidate d R base cap next l2 cs i wd w h.rch).mono ?_
  rintro e w' (⟨rfl, hn, rfl⟩ | ⟨k, x, hf, hx⟩)
  · obtain ⟨q1, q2⟩ := invE_lacks (wd := wd) hn
    rw [q1, q2]
    exact ⟨rfl, h, Step.refl _ _ _ _⟩
  · obtain ⟨q1, q2⟩ := invE_finds (wd := wd) hf
    rw [q1, q2]
    rcases hx with ⟨hu, rfl, rfl⟩ | ⟨hu, hw, rfl, rfl⟩ | ⟨hu, hw, rfl, hc, ht⟩
    · rw [if_pos hu, if_pos hu]
      exact ⟨rfl, h, Step.refl _ _ _ _⟩
    · rw [if_neg (by simpa using hu), if_pos hw, if_neg (by simpa using hu), if_pos hw]
      exact ⟨rfl, h, Step.refl _ _ _ _⟩
    · rw [if_neg (by simpa using hu), if_neg (by omega), if_neg (by simpa using hu), if_neg (by omega)]
      have := h.rop hc ht
      exact ⟨rfl, this.1, this.2⟩

theorem psRem (i : Int) (w : World) (h : PSt B mb R base d w cap last l cm next l2 cs) (hll : l.length ≤ 100000) :
    Calls Tryd.prog 11 #[.pointer (some ⟨B, 0, none⟩), .int .i64 i] w fun e w' => e = .returned (.int .i64 (remE l i)) ∧ PSt B mb R base d w' cap last (remL l i) cm next l2 cs ∧ Step B mb R w w' := by
  rcases finds_or l i with ⟨k, x, hf⟩ | hn
  · obtain ⟨q1, q2⟩ := remE_finds hf
    rw [q1, q2]
    by_cases hu : x.unt = 0
    · rw [if_pos hu, if_pos hu]
      refine (cacheRemoveBad d B base cap last _ l i w h.cch hll (fun k' x' hf' => by rw [(finds_same hf hf').2]; exact hu)).mono ?_
      rintro e w' ⟨⟨rfl, hn⟩ | ⟨rfl, _⟩, hk⟩
      · exact (finds_not hf hn).elim
      · exact ⟨rfl, (h.kept0 hk).1, (h.kept0 hk).2⟩
    · rw [if_neg hu, if_neg hu]
      refine (cacheRemove d B base cap last _ l i k x w h.cch hf hu hll).mono ?_
      rintro e w' ⟨rfl, hc, hk, ho⟩
      have := h.cop hc (.mk [B] (by simp) hk (fun y hy => .inr (by obtain ⟨v, hv, hvy⟩ := hy; exact ho v y hv hvy)))
      exact ⟨rfl, this.1, this.2⟩
  · obtain ⟨q1, q2⟩ := remE_lacks hn
    rw [q1, q2]
    refine (cacheRemoveBad d B base cap last _ l i w h.cch hll (fun k' x' hf' => (finds_not hf' hn).elim)).mono ?_
    rintro e w' ⟨⟨rfl, _⟩ | ⟨rfl, k, x, hf⟩, hk⟩
    · exact ⟨rfl, (h.kept0 hk).1, (h.kept0 hk).2⟩
    · exact (finds_not hf hn).elim
theorem psRRem (i : Int) (w : World) (h : PSt B mb R base d w cap last l cm next l2 cs) (hll : l2.length ≤ 100000) :
    Calls Tryd.prog 35 #[.pointer (some ⟨R, 0, none⟩), .int .i64 i] w fun e w' => e = .returned (.int .i64 (remE l2 i)) ∧ PSt B mb R base d w' cap last l cm next (remL l2 i) cs ∧ Step B mb R w w' := by
  refine (refRemove d R base cap next l2 cs i w h.rch hll).mono ?_
  rintro e w' (⟨rfl, hn, rfl⟩ | ⟨k, x, hf, hx⟩)
  · obtain ⟨q1, q2⟩ := remE_lacks hn
    rw [q1, q2]
    exact ⟨rfl, h, Step.refl _ _ _ _⟩
  · obtain ⟨q1, q2⟩ := remE_finds hf
    rw [q1, q2]
    rcases hx with ⟨hu, rfl, rfl⟩ | ⟨hu, rfl, hc, ht⟩
    · rw [if_pos hu, if_pos hu]
      exact ⟨rfl, h, Step.refl _ _ _ _⟩
    · rw [if_neg hu, if_neg hu]
      have := h.rop hc ht
      exact ⟨rfl, this.1, this.2⟩

theorem psCnt (tb : Nat) (m : Int) (gk : Int) (gn : ByteArray) (gi : Int) (ga : List Ty) (a0 : Option Addr) (c0 : Nat) (w : World) (h : PSt B mb R base d w cap last l cm next l2 cs) (hT : Tabs tb w) (hg : TR d S w (.slice a0 ga.length c0) ga) (hok : tyOk (.mk gk gn gi ga)) (hW : tyW (.mk gk gn gi ga) ≤ 140737488355328) (hcm : ∀ x ∈ cm, 0 ≤ x.n ∧ x.n ≤ 100000) :
    Calls Tryd.prog 26 #[.pointer (some ⟨B, 0, none⟩), .int .i64 m, .agg #[.int .i64 gk, .string gn, .int .i64 gi, .slice a0 ga.length c0]] w fun e w' => e = .returned (.int .i64 (cntI cm m (.mk gk gn gi ga))) ∧ PSt B mb R base d w' cap last l (cntL cm m (.mk gk gn gi ga)) next l2 cs ∧ Step B mb R w w' := by
  obtain ⟨es, n, hm, hr⟩ := h.map
  refine (cacheCount d B base tb cap last mb n l es m gk gn gi ga a0 c0 w h.cch hm h.mB hT hg hok hW (fun y hy => ?_)).mono ?_
  · obtain ⟨k, hk⟩ := List.mem_iff_getElem?.1 hy
    obtain ⟨x, hx⟩ : ∃ x, cm[k]? = some x := ⟨cm[k]'(by have := (List.getElem?_eq_some_iff.1 hk).1; have := hr.1; omega), by simp⟩
    exact ⟨x.n, (hr.2 k y x hk hx).2, hcm x (List.mem_of_getElem? hx)⟩
  · intro e w' hc
    obtain ⟨rfl, ⟨es', n', hm', hr'⟩, hk⟩ := hr.counted hm hc
    have := h.mop hk hm' hr'
    exact ⟨rfl, this.1, this.2⟩
theorem psRCnt (m : Int) (gk : Int) (gn : ByteArray) (gi : Int) (ga : List Ty) (a0 : Option Addr) (c0 : Nat) (w : World) (h : PSt B mb R base d w cap last l cm next l2 cs) (hg : TR d S w (.slice a0 ga.length c0) ga) (hS : ∀ y, S y → Free w B mb R y) (hll : cs.length ≤ 100000) (hcs : ∀ x ∈ cs, 0 ≤ x.n ∧ x.n ≤ 100000) :
    Calls Tryd.prog 36 #[.pointer (some ⟨R, 0, none⟩), .int .i64 m, .agg #[.int .i64 gk, .string gn, .int .i64 gi, .slice a0 ga.length c0]] w fun e w' => e = .returned (.int .i64 (cntI cs m (.mk gk gn gi ga))) ∧ PSt B mb R base d w' cap last l cm next l2 (cntL cs m (.mk gk gn gi ga)) ∧ Step B mb R w w' := by
  refine (refCount d (S := S) R base cap next l2 cs m gk gn gi ga a0 c0 w h.rch hg (fun y _ hs => ?_) hll hcs).mono ?_
  · obtain ⟨_, q2, q3, q4, q5, q6, q7⟩ := hS y hs
    exact ⟨⟨q2, q3, q5⟩, q4, q6, q7⟩
  · rintro e w' (⟨k, x, hx, hh, hn, rfl, hc, ht⟩ | ⟨hn, rfl, hc, ht⟩)
    · obtain ⟨q1, q2⟩ := cnt_hit hx hh hn
      rw [q1, q2]
      have := h.rop hc ht
      exact ⟨rfl, this.1, this.2⟩
    · obtain ⟨q1, q2⟩ := cnt_none hn
      rw [q1, q2]
      have := h.rop hc ht
      exact ⟨rfl, this.1, this.2⟩

/-- What is got: a row, read somewhere, or the zero row. -/
inductive Got (d : Nat) (w' : World) (x : Cp) : Ending → Prop
  | mk (a1 : Option Addr) (c1 : Nat) (a2 : Option Addr) (c2 : Nat) (h1 : TR d (fun _ => True) w' (.slice a1 x.ty.args.length c1) x.ty.args) (h2 : Reads (fun _ => True) w' (.slice a2 x.inl.length c2) 1 (irows x.inl)) :
      Got d w' x (.returned (.tuple #[.agg #[.int .i64 x.id, .int .i64 x.method, .int .i64 x.ty.kind, .string x.ty.name, .int .i64 x.ty.index, .slice a1 x.ty.args.length c1, .int .i64 x.frm, .int .i64 x.unt, .int .i64 0, .int .i64 0, .slice none 0 0, .slice none 0 0, .slice none 0 0, .slice a2 x.inl.length c2], .bool true]))
def gotNone : Ending := .returned (.tuple #[.agg #[.int .i64 0, .int .i64 0, .int .i64 0, .string ⟨#[]⟩, .int .i64 0, .slice none 0 0, .int .i64 0, .int .i64 0, .int .i64 0, .int .i64 0, .slice none 0 0, .slice none 0 0, .slice none 0 0, .slice none 0 0], .bool false])
theorem psGet (i : Int) (w : World) (h : PSt B mb R base d w cap last l cm next l2 cs) :
    Calls Tryd.prog 30 #[.pointer (some ⟨B, 0, none⟩), .int .i64 i] w fun e w' => Kept [] w w' ∧ ((∃ k x, Finds l i k x ∧ Got d w' x e) ∨ (e = gotNone ∧ Lacks l i l.length)) := by
  refine (cacheGet d B base cap last _ l i w h.cch).mono ?_
  rintro e w' ⟨hk, ⟨k, x, a1, c1, a2, c2, rfl, hf, h1, h2⟩ | ⟨rfl, hn⟩⟩
  · exact ⟨hk, .inl ⟨k, x, hf, .mk a1 c1 a2 c2 ((TR.good d).mono h1 (fun _ _ _ => trivial)) (h2.mono (fun _ _ _ => trivial))⟩⟩
  · exact ⟨hk, .inr ⟨rfl, hn⟩⟩
theorem psRGet (i : Int) (w : World) (h : PSt B mb R base d w cap last l cm next l2 cs) :
    Calls Tryd.prog 31 #[.pointer (some ⟨R, 0, none⟩), .int .i64 i] w fun e w' => Kept [] w w' ∧ ((∃ k x, Finds l2 i k x ∧ Got d w' x e) ∨ (e = gotNone ∧ Lacks l2 i l2.length)) := by
  refine (refGet d R base cap next l2 cs i w h.rch).mono ?_
  rintro e w' ⟨hk, ⟨k, x, hf, ⟨a1, c1, a2, c2, h1, h2, _⟩⟩ | ⟨rfl, hn⟩⟩
  · exact ⟨hk, .inl ⟨k, x, hf, .mk a1 c1 a2 c2 ((TR.good d).mono h1 (fun _ _ _ => trivial)) (h2.mono (fun _ _ _ => trivial))⟩⟩
  · exact ⟨hk, .inr ⟨rfl, hn⟩⟩
theorem psLookup (m : Int) (gk : Int) (gn : ByteArray) (gi : Int) (ga : List Ty) (a0 : Option Addr) (c0 : Nat) (wd : Int) (w : World) (h : PSt B mb R base d w cap last l cm next l2 cs) (hg : TR d S w (.slice a0 ga.length c0) ga) :
    Calls Tryd.prog 12 #[.pointer (some ⟨B, 0, none⟩), .int .i64 m, .agg #[.int .i64 gk, .string gn, .int .i64 gi, .slice a0 ga.length c0], .int .i64 wd] w fun e w' => Kept [] w w' ∧ ((∃ k x, FindsFit l m (.mk gk gn gi ga) wd k x ∧ Got d w' x e) ∨ (e = gotNone ∧ LacksFit l m (.mk gk gn gi ga) wd l.length)) := by
  refine (cacheLookup d B base cap last _ l m gk gn gi ga a0 c0 wd w h.cch hg).mono ?_
  rintro e w' ⟨hk, ⟨k, x, a1, c1, a2, c2, rfl, hf, h1, h2⟩ | ⟨rfl, hn⟩⟩
  · exact ⟨hk, .inl ⟨k, x, hf, .mk a1 c1 a2 c2 ((TR.good d).mono h1 (fun _ _ _ => trivial)) (h2.mono (fun _ _ _ => trivial))⟩⟩
  · exact ⟨hk, .inr ⟨rfl, hn⟩⟩
theorem psRLookup (m : Int) (gk : Int) (gn : ByteArray) (gi : Int) (ga : List Ty) (a0 : Option Addr) (c0 : Nat) (wd : Int) (w : World) (h : PSt B mb R base d w cap last l cm next l2 cs) (hg : TR d S w (.slice a0 ga.length c0) ga) :
    Calls Tryd.prog 33 #[.pointer (some ⟨R, 0, none⟩), .int .i64 m, .agg #[.int .i64 gk, .string gn, .int .i64 gi, .slice a0 ga.length c0], .int .i64 wd] w fun e w' => Kept [] w w' ∧ ((∃ k x, FindsFit l2 m (.mk gk gn gi ga) wd k x ∧ Got d w' x e) ∨ (e = gotNone ∧ LacksFit l2 m (.mk gk gn gi ga) wd l2.length)) := by
  refine (refLookup d R base cap next l2 cs m gk gn gi ga a0 c0 wd w h.rch hg).mono ?_
  rintro e w' ⟨hk, ⟨k, x, hf, ⟨a1, c1, a2, c2, h1, h2, _⟩⟩ | ⟨rfl, hn⟩⟩
  · exact ⟨hk, .inl ⟨k, x, hf, .mk a1 c1 a2 c2 ((TR.good d).mono h1 (fun _ _ _ => trivial)) (h2.mono (fun _ _ _ => trivial))⟩⟩
  · exact ⟨hk, .inr ⟨rfl, hn⟩⟩
end
end Go.Proofs.YtkldomkooleecaaDoor
