/- Walks: the reference's merging of dependencies (telref22.MergeDeps). -/
import Derived.Test.YtkldomkooleecaaGreatDoorMRef
import Derived.Test.YtkldomkooleecaaGreatDoorRefCmp
import Derived.Test.YtkldomkooleecaaGreatDoorMrgP
namespace Go.Proofs.YtkldomkooleecaaGreatDoor
open Go.RowKit

/-- One more, in its place, unless its query is there. -/
def insQ : List Dp → Dp → List Dp
  | [], x => [x]
  | y :: l, x => if qCmp y x < 0 then y :: insQ l x else if qCmp y x = 0 then y :: l else x :: y :: l
def mergeR (l : List Dp) : List Dp := l.foldl insQ []
theorem insQ_eq (l : List Dp) (x : Dp) : ∀ k, k ≤ l.length → (∀ y ∈ l.take k, qCmp y x < 0) → (∀ y, l[k]? = some y → 0 < qCmp y x) → insQ l x = l.take k ++ [x] ++ l.drop k := by
  induction l with
  | nil => intro k hk _ _; simp [insQ]
  | cons y l ih =>
    intro k hk h1 h2
    cases k with
    | zero =>
      have := h2 y rfl
      unfold insQ
      rw [if_neg (by omega), if_neg (by omega)]
      simp
    | succ k =>
      have hy := h1 y (by simp)
      unfold insQ
      rw [if_pos hy, ih k (by simpa using hk) (fun x hx => h1 x (by simp [hx])) (fun x hx => h2 x (by simpa using hx))]
      simp
theorem insQ_same (l : List Dp) (x : Dp) : ∀ k y, (∀ y ∈ l.take k, qCmp y x < 0) → l[k]? = some y → qCmp y x = 0 → insQ l x = l := by
  induction l with
  | nil => intro k y _ h; simp at h
  | cons z l ih =>
    intro k y h1 h2 h3
    cases k with
    | zero => simp at h2; subst h2; unfold insQ; rw [if_neg (by omega), if_pos h3]
    | succ k =>
      have hy := h1 z (by simp)
      unfold insQ
      rw [if_pos hy, ih k y (fun x hx => h1 x (by simp [hx])) (by simpa using h2) h3]
def StrQ (l : List Dp) : Prop := l.Pairwise fun x y => qCmp x y < 0
theorem insQ_mem (l : List Dp) (x : Dp) : ∀ z ∈ insQ l x, z ∈ l ∨ z = x := by
  induction l with
  | nil => intro z hz; simp [insQ] at hz; exact .inr hz
  | cons y l ih =>
    intro z hz
    unfold insQ at hz
    split at hz
    · rcases List.mem_cons.1 hz with rfl | hz
      · exact .inl (by simp)
      · exact (ih z hz).imp (fun h => by simp [h]) id
    · split at hz
      · exact .inl hz
      · rcases List.mem_cons.1 hz with rfl | hz
        · exact .inr rfl
        · exact .inl hz
theorem insQ_str (l : List Dp) (x : Dp) (h : StrQ l) : StrQ (insQ l x) := by
  unfold StrQ at *
  induction l with
  | nil => simp [insQ]
  | cons y l ih =>
    rw [List.pairwise_cons] at h
    unfold insQ
    split
    · rename_i hlt
      rw [List.pairwise_cons]
      refine ⟨fun z hz => ?_, ih h.2⟩
      rcases insQ_mem l x z hz with hz | rfl
      · exact h.1 z hz
      · exact hlt
    · split
      · exact List.pairwise_cons.2 h
      · rename_i h1 h2
        have hxy : qCmp x y < 0 := by rw [qCmp_anti]; omega
        rw [List.pairwise_cons, List.pairwise_cons]
        refine ⟨fun z hz => ?_, h⟩
        rcases List.mem_cons.1 hz with rfl | hz
        · exact hxy
        · exact qCmp_trans _ _ _ hxy (h.1 z hz)
theorem insQ_perm (l : List Dp) (x : Dp) (h : StrQ l) : (insQ l x).Perm (addQ l x) := by
  unfold StrQ at h
  induction l with
  | nil => rw [addQ_out (by simp)]; simp [insQ]
  | cons y l ih =>
    rw [List.pairwise_cons] at h
    unfold insQ
    split
    · rename_i hlt
      have hys : ¬ (y.fn = x.fn ∧ y.ty = x.ty) := fun e => by have := (qCmp_zero y x).2 e; omega
      by_cases hx : ∃ z ∈ l, z.fn = x.fn ∧ z.ty = x.ty
      · obtain ⟨z, hz, he⟩ := hx
        have := ih h.2
        rw [addQ_in ⟨z, hz, he⟩] at this
        rw [addQ_in ⟨z, by simp [hz], he⟩]
        exact this.cons y
      · have := ih h.2
        rw [addQ_out hx] at this
        rw [addQ_out (fun ⟨z, hz, he⟩ => by
          rcases List.mem_cons.1 hz with rfl | hz
          · exact hys he
          · exact hx ⟨z, hz, he⟩)]
        exact this.cons y
    · split
      · rename_i _ h0
        rw [addQ_in ⟨y, by simp, (qCmp_zero y x).1 h0⟩]
      · rename_i h1 h2
        have hxy : qCmp x y < 0 := by rw [qCmp_anti]; omega
        rw [addQ_out (fun ⟨z, hz, he⟩ => by
          have e0 := (qCmp_zero z x).2 he
          rcases List.mem_cons.1 hz with rfl | hz
          · omega
          · have := qCmp_trans _ _ _ hxy (h.1 z hz)
            rw [qCmp_anti] at this
            omega)]
        exact (List.perm_append_singleton x (y :: l)).symm
theorem addQ_perm {l m : List Dp} (h : l.Perm m) (x : Dp) : (addQ l x).Perm (addQ m x) := by
  by_cases hx : ∃ z ∈ l, z.fn = x.fn ∧ z.ty = x.ty
  · obtain ⟨z, hz, he⟩ := hx
    rw [addQ_in ⟨z, hz, he⟩, addQ_in ⟨z, h.mem_iff.1 hz, he⟩]
    exact h
  · rw [addQ_out hx, addQ_out (fun ⟨z, hz, he⟩ => hx ⟨z, h.mem_iff.2 hz, he⟩)]
    exact h.append_right [x]
theorem mergeR_is (l : List Dp) : mergeR l = mergeD l := by
  have key : ∀ (l acc ac2 : List Dp), StrQ acc → acc.Perm ac2 → StrQ (l.foldl insQ acc) ∧ (l.foldl insQ acc).Perm (l.foldl addQ ac2) := by
    intro l
    induction l with
    | nil => intro acc ac2 h hp; exact ⟨h, hp⟩
    | cons x l ih => intro acc ac2 h hp; exact ih _ _ (insQ_str acc x h) ((insQ_perm acc x h).trans (addQ_perm hp x))
  obtain ⟨h1, h2⟩ := key l [] [] (by simp [StrQ]) (List.Perm.refl _)
  refine sorted_is (uqD_dist l) h2 (h1.imp fun {a b} h => ?_)
  unfold leD qLt
  rw [qCmp_anti]
  simp; omega
theorem mergeR_snoc (l : List Dp) (k : Nat) (x : Dp) (h : l[k]? = some x) : mergeR (l.take (k + 1)) = insQ (mergeR (l.take k)) x := by
  unfold mergeR
  rw [List.take_add_one, h, List.foldl_append]
  rfl
theorem mergeD_len_ (l : List Dp) : (mergeD l).length = (uqD l).length := by simp [mergeD]
theorem mergeR_len (l : List Dp) : (mergeR l).length ≤ l.length := by
  rw [mergeR_is, mergeD_len_]
  exact uqD_len l

set_option maxRecDepth 100000 in
set_option maxHeartbeats 1600000 in
theorem refQuery (d : Nat) {S S' : Nat → Prop} (fx fy : ByteArray) (xk xi yk yi : Int) (xn yn : ByteArray) (xa ya : List Ty) (e e' : Value) (w : World) (h : TR d S w e xa) (h' : TR d S' w e' ya) :
    Calls Tryz.prog 88 #[.agg #[.string fx, .int .i64 xk, .string xn, .int .i64 xi, e], .agg #[.string fy, .int .i64 yk, .string yn, .int .i64 yi, e']] w fun q w' => q = .returned (.int .i64 (qCmp ⟨fx, .mk xk xn xi xa, 0, []⟩ ⟨fy, .mk yk yn yi ya, 0, []⟩)) ∧ Kept [] w w' := by
  obtain ⟨a1, c1, rfl, _⟩ := h.form
  obtain ⟨a2, c2, rfl, _⟩ := h'.form
  have HTX := Lib.hid h
  have HTY := Lib.hid h'
  clear h h'
  by_cases hf : fx = fy
  · subst hf
    have hbe : (fx.toList == fx.toList) = true := by simp
    have HQ : Hid (qCmp ⟨fx, .mk xk xn xi xa, 0, []⟩ ⟨fx, .mk yk yn yi ya, 0, []⟩ = tyCmp (.mk xk xn xi xa) (.mk yk yn yi ya)) := by
      unfold qCmp
      rw [Hid, (cmpS_ord.zero fx fx).2 rfl, fst0_zero]
    go_enter Tryz.func88, Tryz.ntmps88
    go_wp2_with (go_at_call 56; refine Calls.mono (refCompare d S S' _ (.mk xk xn xi xa) (.mk yk yn yi ya) (.slice a1 xa.length c1) (.slice a2 ya.length c2) (by exact (TR.good d).kept HTX.out (((Kept.refl [] w).alloc _).alloc _) (by simp)) (by exact (TR.good d).kept HTY.out (((Kept.refl [] w).alloc _).alloc _) (by simp))) ?_; rintro e w1 ⟨r, rfl, hr, hk1⟩; have HR := Lib.hid hr; have HK1 := Lib.hid hk1; clear hr hk1)
    go_ret
    refine ⟨?_, (((Kept.refl [] w).alloc _).alloc _).trans HK1.out⟩
    have := HR.out
    unfold IsCmp at this
    rw [HQ.out, ← this]
    rfl
  · have hbe : (fx.toList == fy.toList) = false := by
      cases hb : (fx.toList == fy.toList)
      · rfl
      · exact absurd (bytes_inj' (by simpa using hb)) hf
    obtain ⟨h1, h2⟩ := cmpS_ne hf
    have HQ : Hid (qCmp ⟨fx, .mk xk xn xi xa, 0, []⟩ ⟨fy, .mk yk yn yi ya, 0, []⟩ = if Op.bytesLess fx.toList fy.toList then -1 else 1) := by
      unfold qCmp
      rw [Hid, fst0_ne h2]
      unfold cmpS cmpB at h2 ⊢
      cases hb : Op.bytesLess fx.toList fy.toList <;> cases hb2 : Op.bytesLess fy.toList fx.toList <;> simp_all
    obtain ⟨lb, hlb⟩ : ∃ lb, lb = Op.bytesLess fx.toList fy.toList := ⟨_, rfl⟩
    have HLB := Lib.hid hlb
    have hlb' := hlb.symm
    clear hlb h1 h2
    cases lb
    all_goals
      go_enter Tryz.func88, Tryz.ntmps88
      go_wp2
      go_ret
      refine ⟨?_, (((Kept.refl [] w).alloc _).alloc _)⟩
      rw [HQ.out, ← HLB.out]
      rfl
theorem zip_take {β : Type} {r : β → Value → List Value} : ∀ (k : Nat) (l : List β) (es : List Value), (List.zipWith r l es).take k = List.zipWith r (l.take k) (es.take k)
  | 0, _, _ => by simp
  | k + 1, [], _ => by simp
  | k + 1, _ :: _, [] => by simp
  | k + 1, x :: l, e :: es => by simp [zip_take k l es]
theorem zip_drop {β : Type} {r : β → Value → List Value} : ∀ (k : Nat) (l : List β) (es : List Value), (List.zipWith r l es).drop k = List.zipWith r (l.drop k) (es.drop k)
  | 0, _, _ => by simp
  | k + 1, [], _ => by simp
  | k + 1, _ :: _, [] => by simp
  | k + 1, x :: l, e :: es => by simp [zip_drop k l es]
theorem get_old {w w' : World} {v : Value} (h : ∀ M, (∀ x, v.ownBlock = some x → x ∈ M) → Kept M w w') {g : Nat} {o : Obj} (hg : w.heap[g]? = some o) (hne : v.ownBlock ≠ some g) : w'.heap[g]? = some o :=
  (h v.ownBlock.toList (by intro x hx; simp [hx])).get hg (by simpa using hne)
/-- One more in the middle. -/
theorem DL.put {d : Nat} {T : Nat → Prop} {wo w' : World} {acc : List Dp} {x : Dp} {es : List Value} {ex v3 : Value} {q : Nat} (h1 : es.length = acc.length) (h3 : ∀ (k : Nat) (y : Dp) (e : Value), acc[k]? = some y → es[k]? = some e → DR d T wo e y) (hx : DR d T wo ex x) (hk : Kept [] wo w')
    (ho : Reads T w' v3 7 (List.zipWith Dp.row (acc.take q) (es.take q) ++ [x.row ex] ++ List.zipWith Dp.row (acc.drop q) (es.drop q))) (hq : q ≤ acc.length) : DL d T w' v3 (acc.take q ++ [x] ++ acc.drop q) := by
  refine ⟨es.take q ++ [ex] ++ es.drop q, by simp [h1], ?_, fun k y e hy he => (DR.good d).kept ?_ hk (by simp)⟩
  · rw [List.zipWith_append (by simp [h1]), List.zipWith_append (by simp [h1])]
    exact ho
  · rcases Nat.lt_trichotomy k q with hlt | heq | hgt
    · rw [List.append_assoc, List.getElem?_append_left (by simp; omega), List.getElem?_take_of_lt hlt] at hy he
      exact h3 k y e hy he
    · subst heq
      rw [List.append_assoc, List.getElem?_append_right (by rw [List.length_take]; exact Nat.min_le_left _ _)] at hy he
      simp only [List.length_take, h1, Nat.min_eq_left hq, Nat.sub_self, List.singleton_append, List.getElem?_cons_zero, Option.some.injEq] at hy he
      subst hy he
      exact hx
    · rw [List.getElem?_append_right (by simp; omega)] at hy he
      simp only [List.length_append, List.length_take, h1, Nat.min_eq_left hq, List.length_singleton, List.getElem?_drop] at hy he
      rw [show q + (k - (q + 1)) = k - 1 by omega] at hy he
      exact h3 (k - 1) y e hy he

def ordAt (acc : List Dp) (x : Dp) (q : Nat) : Int := match acc[q]? with | some y => qCmp y x | none => 1
theorem ordAt_at {acc : List Dp} {x y : Dp} {q : Nat} (h : acc[q]? = some y) : ordAt acc x q = qCmp y x := by unfold ordAt; rw [h]
theorem ordAt_end {acc : List Dp} {x : Dp} {q : Nat} (h : acc.length ≤ q) : ordAt acc x q = 1 := by unfold ordAt; rw [List.getElem?_eq_none h]

set_option maxRecDepth 100000 in
set_option maxHeartbeats 12800000 in
theorem refMerge {S : Nat → Prop} (d : Nat) (v : Value) (l : List Dp) (w : World) (h : DL d S w v l) (hl : l.length ≤ 100000) :
    Calls Tryz.prog 68 #[v] w fun e w' => ∃ v', e = .returned v' ∧ DL d (fun y => S y ∨ w.heap.size ≤ y) w' v' (mergeR l) ∧ Kept [] w w' := by
  obtain ⟨T, hT⟩ : ∃ T : Nat → Prop, T = fun y => S y ∨ w.heap.size ≤ y := ⟨_, rfl⟩
  have HT := Lib.hid hT
  obtain ⟨i0, z0, hi, hz0, hz1, hz2, hz3⟩ := info_dep
  have hT' := (DL.good d).mono h (S' := T) (fun b _ hb => by rw [hT]; exact .inl hb)
  obtain ⟨a1, c1, rfl, p1, p2, p3⟩ := hT'.form
  have P3 := Lib.hid p3
  rw [← hT]
  clear h hT p3 hT'
  go_enter Tryz.func68, Tryz.ntmps68
  go_wp2
  go_loopw [3, 4] (fun u i wr => ∃ k : Nat, k ≤ l.length ∧ i = .int .i64 k ∧ Kept [] w wr ∧ Hid (DL d T wr u (mergeR (l.take k)))) (fun _ i _ => l.length - (intOf i).toNat)
  case atStart => exact ⟨0, Nat.zero_le _, by go_num, Kept.refl _ _, DL.nil _ _ _⟩
  case round =>
    obtain ⟨k, hk, rfl, hkr, hv⟩ := hrel
    obtain ⟨wo, hwo⟩ : ∃ wo : World, wo = wr := ⟨_, rfl⟩
    subst hwo
    by_cases hlt : k < l.length
    · have hne : l ≠ [] := by intro h; rw [h] at hlt; simp at hlt
      obtain ⟨b1, o1, rfl, hTb, hb1, hc1⟩ := P3.out.resolve_left hne
      obtain ⟨x, hx⟩ := getp l k hlt
      obtain ⟨qa, qc, ra, rc, hr, ht, hri, hxl⟩ := hc1 k x hx
      have HS := Lib.hid (mergeR_snoc l k x hx)
      have hacl := mergeR_len (l.take k)
      rw [List.length_take] at hacl
      generalize hacc : mergeR (l.take k) = acc at hv HS hacl
      obtain ⟨a3, c3, rfl, g1, g2, g3⟩ := hv.out.form
      have G3 := Lib.hid g3
      have HRX := Lib.hid (hkr.range hr (by simp))
      have HTX := Lib.hid ((TR.good d).kept ht hkr (by simp))
      have HRI := Lib.hid (hri.kept hkr (by simp))
      have hbl : b1 < wo.heap.size := Nat.lt_of_lt_of_le hb1 hkr.size
      have hkc : k < c1 := by omega
      have hal : acc.length ≤ 100000 := by omega
      have HV := Lib.hid hv.out
      obtain ⟨xf, ⟨tk, tn, ti, ta⟩, xk, xl⟩ := x
      simp only [Dp.row, vfst_pair, vsnd_pair, Ty.kind, Ty.name, Ty.index, Ty.args] at HRX HTX HRI hxl
      clear hc1 hr ht hri hx hne P3 hacc g3 hv hacl
      obtain ⟨x, hxe⟩ : ∃ x : Dp, x = ⟨xf, .mk tk tn ti ta, xk, xl⟩ := ⟨_, rfl⟩
      have HXE := Lib.hid hxe
      rw [← hxe] at HS
      clear hxe
      go_wp2
      go_loopw [5] (fun j wi => ∃ q : Nat, q ≤ acc.length ∧ j = .int .i64 q ∧ Kept [] wo wi ∧ Hid (∀ y ∈ acc.take q, qCmp y x < 0)) (fun j _ => acc.length - (intOf j).toNat)
      case atStart => exact ⟨0, Nat.zero_le _, by go_num, Kept.refl _ _, by simp [Hid]⟩
      case round =>
        obtain ⟨q, hq, rfl, hki, hno⟩ := hrel
        obtain ⟨wi, hwi⟩ : ∃ wi : World, wi = wr := ⟨_, rfl⟩
        subst hwi
        obtain ⟨r, hr⟩ : ∃ r, r = ordAt acc x q := ⟨_, rfl⟩
        have HR := Lib.hid hr
        clear hr
        have HQC : Hid (∀ (Wb : World), Kept [] wo Wb → ∀ y, acc[q]? = some y → ∃ b3 o3 ya yc, a3 = some ⟨b3, o3, none⟩ ∧ b3 < Wb.heap.size ∧ (∀ W, Kept [] Wb W → (W.cell? ⟨b3, o3 + q * 7, none⟩ = some (.string y.fn) ∧ W.cell? ⟨b3, o3 + q * 7 + 1, none⟩ = some (.int .i64 y.ty.kind) ∧ W.cell? ⟨b3, o3 + q * 7 + 2, none⟩ = some (.string y.ty.name) ∧ W.cell? ⟨b3, o3 + q * 7 + 3, none⟩ = some (.int .i64 y.ty.index) ∧ W.cell? ⟨b3, o3 + q * 7 + 4, none⟩ = some (.slice ya y.ty.args.length yc) ∧
            W.cell? ⟨b1, o1 + k * 7, none⟩ = some (.string xf) ∧ W.cell? ⟨b1, o1 + k * 7 + 1, none⟩ = some (.int .i64 tk) ∧ W.cell? ⟨b1, o1 + k * 7 + 2, none⟩ = some (.string tn) ∧ W.cell? ⟨b1, o1 + k * 7 + 3, none⟩ = some (.int .i64 ti) ∧ W.cell? ⟨b1, o1 + k * 7 + 4, none⟩ = some (.slice qa ta.length qc))) ∧
            (∀ W, Kept [] Wb W → Calls Tryz.prog 88 #[.agg #[.string y.fn, .int .i64 y.ty.kind, .string y.ty.name, .int .i64 y.ty.index, .slice ya y.ty.args.length yc], .agg #[.string xf, .int .i64 tk, .string tn, .int .i64 ti, .slice qa ta.length qc]] W fun e w' => e = .returned (.int .i64 r) ∧ Kept [] Wb w')) := Lib.hid (fun Wb hWb y hy => by
          have hne : acc ≠ [] := by intro h; rw [h] at hy; simp at hy
          obtain ⟨b3, o3, rfl, _, hb3, hc3⟩ := G3.out.resolve_left hne
          obtain ⟨ya, yc, za, zc, hry, hty, _, _⟩ := hc3 q y hy
          refine ⟨b3, o3, ya, yc, rfl, Nat.lt_of_lt_of_le hb3 hWb.size, fun W hW => ?_, fun W hW => ?_⟩
          · have h1 := (hWb.trans hW).range hry (by simp)
            have h2 := (hWb.trans hW).range HRX.out (by simp)
            exact ⟨h1 0 _ rfl, h1 1 _ rfl, h1 2 _ rfl, h1 3 _ rfl, h1 4 _ rfl, h2 0 _ rfl, h2 1 _ rfl, h2 2 _ rfl, h2 3 _ rfl, h2 4 _ rfl⟩
          · refine (refQuery d y.fn xf y.ty.kind y.ty.index tk ti y.ty.name tn y.ty.args ta _ _ W ((TR.good d).kept hty (hWb.trans hW) (by simp)) ((TR.good d).kept HTX.out (hWb.trans hW) (by simp))).mono ?_
            rintro e w' ⟨rfl, hk⟩
            refine ⟨?_, hW.trans hk⟩
            rw [HR.out, ordAt_at hy, HXE.out]
            obtain ⟨yf, ⟨yk, yn, yi, yaa⟩, ykd, yl⟩ := y
            rfl)
        go_upto_region 6 with fail
        go_cut [29] from 12 to 31 (fun v wx => ∃ bb : Bool, v = .bool bb ∧ Hid (bb = decide (r < 0)) ∧ Kept [] wi wx)
        case first =>
          by_cases hlq : q < acc.length
          · obtain ⟨y, hy⟩ := getp acc q hlq
            obtain ⟨b3, o3, ya, yc, rfl, hb3, hF, hC⟩ := HQC.out wi hki y hy
            have HKF := Lib.hid hF
            have HCC := Lib.hid hC
            have qd : decide ((q : Int) < (acc.length : Int)) = true := by simp; omega
            have hqc : q < c3 := by omega
            obtain ⟨yf, ⟨yk, yn, yi, yaa⟩, ykd, yl⟩ := y
            simp only [Ty.kind, Ty.name, Ty.index, Ty.args] at HKF HCC
            clear hF hC hy HQC
            have hwi : Kept [] wi wi := Kept.refl _ _
            go_region_held3 (fun w' => w'.cell? ⟨b3, o3 + q * 7, none⟩ = some (.string yf) ∧ w'.cell? ⟨b3, o3 + q * 7 + 1, none⟩ = some (.int .i64 yk) ∧ w'.cell? ⟨b3, o3 + q * 7 + 2, none⟩ = some (.string yn) ∧ w'.cell? ⟨b3, o3 + q * 7 + 3, none⟩ = some (.int .i64 yi) ∧ w'.cell? ⟨b3, o3 + q * 7 + 4, none⟩ = some (.slice ya yaa.length yc) ∧
                w'.cell? ⟨b1, o1 + k * 7, none⟩ = some (.string xf) ∧ w'.cell? ⟨b1, o1 + k * 7 + 1, none⟩ = some (.int .i64 tk) ∧ w'.cell? ⟨b1, o1 + k * 7 + 2, none⟩ = some (.string tn) ∧ w'.cell? ⟨b1, o1 + k * 7 + 3, none⟩ = some (.int .i64 ti) ∧ w'.cell? ⟨b1, o1 + k * 7 + 4, none⟩ = some (.slice qa ta.length qc))
              (first | with_reducible exact HKF.out _ hk9 | with_reducible exact HKF.out _ ((Kept.refl [] wi).drew))
              (first | (go_at_call 88; (refine Calls.mono (HCC.out _ (by first | exact hk9 | exact (Kept.refl [] wi).drew)) ?_; rintro q w3 ⟨rfl, hk9⟩)))
            all_goals
              go_wp2_with fail
              go_meet
              exact ⟨_, rfl, rfl, hk9⟩
          · have qd : decide ((q : Int) < (acc.length : Int)) = false := by simp; omega
            have hr1 : r = 1 := by rw [HR.out]; exact ordAt_end (by omega)
            have HR1 := Lib.hid hr1
            clear hr1 HQC
            go_quiet (fail)
            all_goals
              go_wp2_with fail
              go_meet
              exact ⟨_, rfl, by rw [Hid, HR1.out]; rfl, (Kept.refl [] wi).drewN _⟩
        case rest =>
          obtain ⟨bb, rfl, hbb, hkc0⟩ := hcut
          obtain ⟨w4, hw4⟩ : ∃ w4 : World, w4 = wc := ⟨_, rfl⟩
          subst hw4
          have hki4 := hki.trans hkc0
          by_cases hr0 : r < 0
          · obtain rfl : bb = true := by rw [hbb.out]; simpa using hr0
            have hlq : q < acc.length := by
              rcases Nat.lt_or_ge q acc.length with h | h
              · exact h
              · have := HR.out; rw [ordAt_end h] at this; omega
            go_wp2_with fail
            go_roundw
            case rel =>
              refine ⟨q + 1, by omega, by go_num, hki4, ?_⟩
              obtain ⟨y, hy⟩ := getp acc q hlq
              rw [Hid, List.take_add_one, hy]
              intro z hz
              rcases List.mem_append.1 hz with hz | hz
              · exact hno.out z hz
              · simp at hz
                subst hz
                have := HR.out
                rw [ordAt_at hy] at this
                omega
            case measure => simp [intOf]; omega
          · obtain rfl : bb = false := by rw [hbb.out]; simpa using hr0
            clear hbb
            go_upto_region 8 with fail
            go_cut [49] from 32 to 64 (fun v wx => ∃ bb : Bool, v = .bool bb ∧ Hid (bb = (r == 0)) ∧ Kept [] w4 wx)
            case first =>
              by_cases hlq : q < acc.length
              · obtain ⟨y, hy⟩ := getp acc q hlq
                obtain ⟨b3, o3, ya, yc, rfl, hb3, hF, hC⟩ := HQC.out w4 hki4 y hy
                have HKF := Lib.hid hF
                have HCC := Lib.hid hC
                have qd : decide ((q : Int) < (acc.length : Int)) = true := by simp; omega
                have hqc : q < c3 := by omega
                obtain ⟨yf, ⟨yk, yn, yi, yaa⟩, ykd, yl⟩ := y
                simp only [Ty.kind, Ty.name, Ty.index, Ty.args] at HKF HCC
                clear hF hC hy HQC
                go_region_held3 (fun w' => w'.cell? ⟨b3, o3 + q * 7, none⟩ = some (.string yf) ∧ w'.cell? ⟨b3, o3 + q * 7 + 1, none⟩ = some (.int .i64 yk) ∧ w'.cell? ⟨b3, o3 + q * 7 + 2, none⟩ = some (.string yn) ∧ w'.cell? ⟨b3, o3 + q * 7 + 3, none⟩ = some (.int .i64 yi) ∧ w'.cell? ⟨b3, o3 + q * 7 + 4, none⟩ = some (.slice ya yaa.length yc) ∧
                    w'.cell? ⟨b1, o1 + k * 7, none⟩ = some (.string xf) ∧ w'.cell? ⟨b1, o1 + k * 7 + 1, none⟩ = some (.int .i64 tk) ∧ w'.cell? ⟨b1, o1 + k * 7 + 2, none⟩ = some (.string tn) ∧ w'.cell? ⟨b1, o1 + k * 7 + 3, none⟩ = some (.int .i64 ti) ∧ w'.cell? ⟨b1, o1 + k * 7 + 4, none⟩ = some (.slice qa ta.length qc))
                  (first | with_reducible exact HKF.out _ hk9 | with_reducible exact HKF.out _ ((Kept.refl [] w4).drew))
                  (first | (go_at_call 88; (refine Calls.mono (HCC.out _ (by first | exact hk9 | exact (Kept.refl [] w4).drew)) ?_; rintro q w3 ⟨rfl, hk9⟩)))
                all_goals
                  go_wp2_with fail
                  go_meet
                  exact ⟨_, rfl, rfl, hk9⟩
              · have qd : decide ((q : Int) < (acc.length : Int)) = false := by simp; omega
                have hr1 : r = 1 := by rw [HR.out]; exact ordAt_end (by omega)
                have HR1 := Lib.hid hr1
                clear hr1 HQC
                go_quiet (fail)
                all_goals
                  go_wp2_with fail
                  go_meet
                  exact ⟨_, rfl, by rw [Hid, HR1.out]; rfl, (Kept.refl [] w4).drewN _⟩
            case rest =>
              obtain ⟨bb, rfl, hbb2, hkc1⟩ := hcut
              obtain ⟨wq, hwq⟩ : ∃ wq : World, wq = wc := ⟨_, rfl⟩
              subst hwq
              have hkq := hki4.trans hkc1
              by_cases hr0' : r = 0
              · obtain rfl : bb = true := by rw [hbb2.out]; simpa using hr0'
                have HSM : Hid (insQ acc x = acc) := Lib.hid (by
                  have hlq : q < acc.length := by
                    rcases Nat.lt_or_ge q acc.length with h | h
                    · exact h
                    · have := HR.out; rw [ordAt_end h] at this; omega
                  obtain ⟨y, hy⟩ := getp acc q hlq
                  exact insQ_same acc x q y hno.out hy (by rw [← ordAt_at hy, ← HR.out]; exact hr0'))
                go_wp2_with fail
                go_roundw
                case rel =>
                  refine ⟨k + 1, by omega, by go_num, hkr.trans hkq, ?_⟩
                  rw [Hid, HS.out, HSM.out]
                  exact (DL.good d).kept HV.out hkq (by simp)
                case measure => simp [intOf]; omega
              · obtain rfl : bb = false := by rw [hbb2.out]; simpa using hr0'
                have HSM : Hid (insQ acc x = acc.take q ++ [x] ++ acc.drop q) := Lib.hid (insQ_eq acc x q hq hno.out (fun y hy => by rw [← ordAt_at hy, ← HR.out]; omega))
                obtain ⟨es, n1, n2, n3⟩ := (DL.good d).kept HV.out hkq (by simp)
                have hlen : (List.zipWith Dp.row acc es).length = acc.length := zip_len n1
                have hR1 := n2.sub 0 q (Nat.zero_le _) (by rw [hlen]; exact hq)
                have hR2 := n2.sub q acc.length hq (by rw [hlen]; exact Nat.le_refl _)
                rw [List.drop_zero, zip_take] at hR1
                rw [show acc.length = (List.zipWith Dp.row acc es).length from hlen.symm, List.take_length, zip_drop, hlen] at hR2
                have L1 : (List.zipWith Dp.row (acc.take q) (es.take q)).length ≤ 100000 := by simp; omega
                have L2 : (List.zipWith Dp.row (acc.drop q) (es.drop q)).length ≤ 100000 := by simp; omega
                have HL1 := Lib.hid L1
                have HL2 := Lib.hid L2
                have N1 := Lib.hid n1
                have N3 := Lib.hid n3
                have R1 : ∀ W, Kept [] wq W → Reads T W _ 7 (List.zipWith Dp.row (acc.take q) (es.take q)) := fun W hW => hR1.kept hW (by simp)
                have R2 : ∀ W, Kept [] wq W → Reads T W _ 7 (List.zipWith Dp.row (acc.drop q) (es.drop q)) := fun W hW => hR2.kept hW (by simp)
                have hqc : q ≤ c3 := by omega
                have HBL : Hid (b1 < wq.heap.size) := Lib.hid (Nat.lt_of_lt_of_le hbl hkq.size)
                have hb1q : b1 < wq.heap.size := HBL.out
                have HRQ := Lib.hid (hkq.range HRX.out (by simp))
                have HKF : Hid (∀ W, Kept [] wq W → W.cell? ⟨b1, o1 + k * 7, none⟩ = some (.string xf) ∧ W.cell? ⟨b1, o1 + k * 7 + 1, none⟩ = some (.int .i64 tk) ∧ W.cell? ⟨b1, o1 + k * 7 + 2, none⟩ = some (.string tn) ∧ W.cell? ⟨b1, o1 + k * 7 + 3, none⟩ = some (.int .i64 ti) ∧ W.cell? ⟨b1, o1 + k * 7 + 4, none⟩ = some (.slice qa ta.length qc) ∧ W.cell? ⟨b1, o1 + k * 7 + 5, none⟩ = some (.int .i64 xk) ∧ W.cell? ⟨b1, o1 + k * 7 + 6, none⟩ = some (.slice ra xl.length rc)) := Lib.hid (fun W hW => by
                  have h2 := hW.range HRQ.out (by simp)
                  exact ⟨h2 0 _ rfl, h2 1 _ rfl, h2 2 _ rfl, h2 3 _ rfl, h2 4 _ rfl, h2 5 _ rfl, h2 6 _ rfl⟩)
                obtain ⟨x0, x1, x2, x3, x4, x5, x6⟩ := HKF.out wq (Kept.refl _ _)
                have HDX : Hid (DR d T wq (.tuple #[.slice qa ta.length qc, .slice ra xl.length rc]) x) := Lib.hid (by rw [HXE.out]; exact ⟨_, _, rfl, (TR.good d).kept HTX.out hkq (by simp), HRI.out.kept hkq (by simp), hxl⟩)
                have hkk := hkr.trans hkq
                have HKK := Lib.hid hkk
                clear HQC n1 n2 n3 hlen hR1 hR2 L1 L2 hki hki4 hkq hkc0 hkc1 hkk hb1 hbl
                simp only [sub, Nat.sub_zero, Nat.zero_mul, ite_self, Addr.add_zero', Option.map_id'] at R1 R2
                have HR1 := Lib.hid R1
                have HR2 := Lib.hid R2
                clear R1 R2
                go_upto_region 9 with fail
                go_region_law ((first
                | (refine step_append_rows rfl (.tmp 50) (.tmp 53) 33 45 rfl i0 z0 7 104 Tryz.underlying33 hi hz0 hz1 hz2 hz3 (by decide) wq.heap.size (.slice (some ⟨_, 0, none⟩) 0 0) [] (List.zipWith Dp.row (acc.take q) (es.take q)) rfl (own_zeroN (by first | exact halloc_new _ _ _ rfl | exact halloc_new (wq.alloc _) _ _ (by simp) | exact (halloc_old _ _ _ (by simp)).trans (halloc_new _ _ _ rfl)) (by simp)) T _ rfl (HR1.out _ (by repeat (first | exact Kept.refl _ _ | refine Kept.drew ?_ | refine Kept.alloc ?_ _))) (by have := HL1.out; simp only [List.length_nil]; omega) (by have := HL1.out; simp only [List.length_nil]; omega) (by simp; try omega) ?_; intro v1 w1 ho1 hka _; have K1 : Kept [] wq w1 := Kept.trans' (by repeat (first | exact Kept.refl _ _ | refine Kept.drew ?_ | refine Kept.alloc ?_ _)) (hka [wq.heap.size, wq.heap.size + 1] (by simp [Value.ownBlock])) (by simp); have HO1 : Hid (Own w1 wq.heap.size 45 7 v1 (List.zipWith Dp.row (acc.take q) (es.take q))) := Lib.hid ho1; have HK1 := Lib.hid K1; have HA1 := Lib.hid hka; obtain ⟨x0, x1, x2, x3, x4, x5, x6⟩ := HKF.out _ K1; have hb1' := Nat.lt_of_lt_of_le HBL.out K1.size; clear ho1 hka K1)
                | (refine step_append_rows rfl (.tmp 54) (.tmp 59) 33 45 rfl i0 z0 7 104 Tryz.underlying33 hi hz0 hz1 hz2 hz3 (by decide) wq.heap.size v1 (List.zipWith Dp.row (acc.take q) (es.take q)) [[.string xf, .int .i64 tk, .string tn, .int .i64 ti, .slice qa ta.length qc, .int .i64 xk, .slice ra xl.length rc]] rfl (by first | exact HO1.out | exact HO1.out.kept (M := []) (by repeat (first | exact Kept.refl _ _ | refine Kept.drew ?_ | refine Kept.alloc ?_ _)) (by simp)) (fun _ => True) (.slice (some ⟨_, 0, none⟩) 1 1) rfl (rows_lit [[.string xf, .int .i64 tk, .string tn, .int .i64 ti, .slice qa ta.length qc, .int .i64 xk, .slice ra xl.length rc]] (by first | exact halloc_new _ _ _ rfl | exact get_old HA1.out (by first | exact halloc_new _ _ _ rfl | exact halloc_new (wq.alloc _) _ _ (by simp) | exact (halloc_old _ _ _ (by simp)).trans (halloc_new _ _ _ rfl)) (by simp [Value.ownBlock])) (by simp [Value.oneCell']) (by simp)) (by have := HL1.out; simp only [List.length_cons, List.length_nil]; omega) (by have := HL1.out; simp only [List.length_cons, List.length_nil]; omega) (by have := HK1.out.size; simp; try omega) ?_; intro v2 w2 ho2 hkb _; have hl1 := HO1.out.lt; have K2 : Kept [] wq w2 := (Kept.trans HK1.out (by repeat (first | exact Kept.refl _ _ | refine Kept.drew ?_ | refine Kept.alloc ?_ _))).trans' (hkb v1.ownBlock.toList (by intro x hx; simp [hx])) (fun x hx => .inr (hl1 x (by simpa using hx)).1); have HO2 : Hid (Own w2 wq.heap.size 45 7 v2 (List.zipWith Dp.row (acc.take q) (es.take q) ++ [[.string xf, .int .i64 tk, .string tn, .int .i64 ti, .slice qa ta.length qc, .int .i64 xk, .slice ra xl.length rc]])) := Lib.hid ho2; have HK2 := Lib.hid K2; clear ho2 hkb K2 hl1)
                | (refine step_append_rows rfl (.tmp 60) (.tmp 63) 33 45 rfl i0 z0 7 104 Tryz.underlying33 hi hz0 hz1 hz2 hz3 (by decide) wq.heap.size v2 (List.zipWith Dp.row (acc.take q) (es.take q) ++ [[.string xf, .int .i64 tk, .string tn, .int .i64 ti, .slice qa ta.length qc, .int .i64 xk, .slice ra xl.length rc]]) (List.zipWith Dp.row (acc.drop q) (es.drop q)) rfl HO2.out T _ rfl (HR2.out _ HK2.out) (by have := HL1.out; have := HL2.out; simp only [List.length_append, List.length_cons, List.length_nil]; omega) (by have := HL1.out; have := HL2.out; simp only [List.length_append, List.length_cons, List.length_nil]; omega) HK2.out.size ?_; intro v3 w3 ho3 hkc _; have hl2 := HO2.out.lt; have K3 : Kept [] wq w3 := HK2.out.trans' (hkc v2.ownBlock.toList (by intro x hx; simp [hx])) (fun x hx => .inr (hl2 x (by simpa using hx)).1); have HO3 : Hid (Own w3 wq.heap.size 45 7 v3 (List.zipWith Dp.row (acc.take q) (es.take q) ++ [[.string xf, .int .i64 tk, .string tn, .int .i64 ti, .slice qa ta.length qc, .int .i64 xk, .slice ra xl.length rc]] ++ List.zipWith Dp.row (acc.drop q) (es.drop q))) := Lib.hid ho3; have HK3 := Lib.hid K3; clear ho3 hkc K3 hl2)))
                all_goals go_wp2_with fail
                all_goals
                  go_roundw
                  case rel =>
                    refine ⟨k + 1, by omega, by go_num, HKK.out.trans HK3.out, ?_⟩
                    rw [Hid, HS.out, HSM.out]
                    refine DL.put (wo := wq) (ex := .tuple #[.slice qa ta.length qc, .slice ra xl.length rc]) N1.out N3.out HDX.out HK3.out ?_ hq
                    rw [HXE.out]
                    have hz := HKK.out.size
                    exact HO3.out.rows'.mono (fun b _ hb => by rw [HT.out]; exact .inr (by omega))
                  case measure => simp [intOf]; omega
    · go_wp2
      go_ret
      refine ⟨_, rfl, ?_, hkr⟩
      have hfin := hv.out
      rw [show k = l.length by omega, List.take_length] at hfin
      exact hfin
end Go.Proofs.YtkldomkooleecaaGreatDoor
