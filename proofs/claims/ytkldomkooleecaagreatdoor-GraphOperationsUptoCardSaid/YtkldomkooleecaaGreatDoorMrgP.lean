/- Merged dependencies: plain facts. -/
import Derived.Test.YtkldomkooleecaaGreatDoorStabB
import Derived.Test.YtkldomkooleecaaGreatDoorKeyInj
import Derived.Test.YtkldomkooleecaaGreatDoorKeys
namespace Go.Proofs.YtkldomkooleecaaGreatDoor
open Go.RowKit Go.Maps Go.Sort

def sameB (x y : Dp) : Bool := decide (qCmp x y = 0)
theorem sameB_iff (x y : Dp) : sameB x y = true ↔ SameQ x y := by unfold sameB; rw [decide_eq_true_iff, qCmp_zero]
/-- One more, unless its query is there. -/
def addQ (acc : List Dp) (x : Dp) : List Dp := if acc.any (fun y => sameB y x) then acc else acc ++ [x]
def uqD (l : List Dp) : List Dp := l.foldl addQ []
def leD (x y : Dp) : Bool := !(qLt y x)
/-- The first of each query, in order. -/
def mergeD (l : List Dp) : List Dp := (uqD l).mergeSort leD
theorem uqD_snoc (l : List Dp) (x : Dp) : uqD (l ++ [x]) = addQ (uqD l) x := by simp [uqD, List.foldl_append]
theorem any_same (l : List Dp) (x : Dp) : l.any (fun y => sameB y x) = true ↔ ∃ y ∈ l, y.fn = x.fn ∧ y.ty = x.ty := by
  rw [List.any_eq_true]
  exact ⟨fun ⟨y, h1, h2⟩ => ⟨y, h1, (sameB_iff _ _).1 h2⟩, fun ⟨y, h1, h2⟩ => ⟨y, h1, (sameB_iff _ _).2 h2⟩⟩
theorem addQ_in {l : List Dp} {x : Dp} (h : ∃ y ∈ l, y.fn = x.fn ∧ y.ty = x.ty) : addQ l x = l := if_pos ((any_same l x).2 h)
theorem addQ_out {l : List Dp} {x : Dp} (h : ¬ ∃ y ∈ l, y.fn = x.fn ∧ y.ty = x.ty) : addQ l x = l ++ [x] := if_neg (fun q => h ((any_same l x).1 q))
/-- All of different queries. -/
def DistQ (l : List Dp) : Prop := l.Pairwise fun x y => ¬ SameQ x y
theorem DistQ.add {l : List Dp} (h : DistQ l) (x : Dp) : DistQ (addQ l x) := by
  by_cases hx : ∃ y ∈ l, y.fn = x.fn ∧ y.ty = x.ty
  · rw [addQ_in hx]; exact h
  · rw [addQ_out hx]
    unfold DistQ
    rw [List.pairwise_append]
    refine ⟨h, by simp, fun y hy z hz => ?_⟩
    simp at hz
    subst hz
    exact fun hs => hx ⟨y, hy, hs⟩
theorem uqD_dist (l : List Dp) : DistQ (uqD l) := by
  have key : ∀ (l acc : List Dp), DistQ acc → DistQ (l.foldl addQ acc) := by
    intro l
    induction l with
    | nil => intro acc h; exact h
    | cons x l ih => intro acc h; exact ih _ (h.add x)
  exact key l [] List.Pairwise.nil
theorem addQ_len (acc : List Dp) (x : Dp) : (addQ acc x).length ≤ acc.length + 1 := by unfold addQ; split <;> simp
theorem uqD_len (l : List Dp) : (uqD l).length ≤ l.length := by
  have key : ∀ (l acc : List Dp), (l.foldl addQ acc).length ≤ acc.length + l.length := by
    intro l
    induction l with
    | nil => simp
    | cons x l ih =>
      intro acc
      have h1 := ih (addQ acc x)
      have h2 := addQ_len acc x
      simp only [List.foldl_cons, List.length_cons]; omega
  have := key l []
  unfold uqD
  simpa using this
theorem addQ_sub (acc : List Dp) (x : Dp) : ∀ y ∈ addQ acc x, y ∈ acc ∨ y = x := by
  intro y hy
  unfold addQ at hy
  split at hy
  · exact .inl hy
  · simpa using hy
theorem uqD_sub (l : List Dp) : ∀ y ∈ uqD l, y ∈ l := by
  have key : ∀ (l acc : List Dp), ∀ y ∈ l.foldl addQ acc, y ∈ acc ∨ y ∈ l := by
    intro l
    induction l with
    | nil => intro acc y h; exact .inl h
    | cons x l ih =>
      intro acc y h
      rcases ih _ y h with h | h
      · rcases addQ_sub acc x y h with h | h
        · exact .inl h
        · exact .inr (by simp [h])
      · exact .inr (by simp [h])
  intro y hy
  rcases key l [] y hy with h | h
  · simp at h
  · exact h
theorem uqD_take_len (l : List Dp) (k : Nat) : (uqD (l.take k)).length ≤ (uqD l).length := by
  have key : ∀ (l acc : List Dp), acc.length ≤ (l.foldl addQ acc).length := by
    intro l
    induction l with
    | nil => intro acc; exact Nat.le_refl _
    | cons x l ih =>
      intro acc
      refine Nat.le_trans ?_ (ih (addQ acc x))
      unfold addQ; split <;> simp
  conv => rhs; rw [← List.take_append_drop k l]
  unfold uqD
  rw [List.foldl_append]
  exact key _ _
theorem leD_trans (x y z : Dp) (h1 : leD x y = true) (h2 : leD y z = true) : leD x z = true := by
  simp only [leD, qLt, Bool.not_eq_true', decide_eq_false_iff_not, Int.not_lt] at *
  rcases Int.lt_or_eq_of_le h1 with h1 | h1
  · rcases Int.lt_or_eq_of_le h2 with h2 | h2
    · have := qCmp_trans x y z (by rw [qCmp_anti]; omega) (by rw [qCmp_anti]; omega)
      rw [qCmp_anti] at this; omega
    · rw [qCmp_same x ((qCmp_zero _ _).1 h2.symm)]; omega
  · rw [← qCmp_same' z ((qCmp_zero _ _).1 h1.symm)]; exact h2
theorem leD_total (x y : Dp) : (leD x y || leD y x) = true := by
  have := qCmp_anti x y
  simp only [leD, qLt, Bool.or_eq_true, Bool.not_eq_true', decide_eq_false_iff_not, Int.not_lt]
  omega
/-- The only list in order. -/
theorem sorted_is {l m : List Dp} (hd : DistQ l) (hp : m.Perm l) (hs : m.Pairwise fun x y => leD x y = true) : m = l.mergeSort leD := by
  have hq := List.mergeSort_perm l leD
  refine List.Perm.eq_of_pairwise (le := fun x y => leD x y = true) (fun a b ha hb h1 h2 => ?_) hs (List.pairwise_mergeSort leD_trans leD_total l) (hp.trans hq.symm)
  have h0 : qCmp a b = 0 := by
    have := qCmp_anti a b
    simp only [leD, qLt, Bool.not_eq_true', decide_eq_false_iff_not, Int.not_lt] at h1 h2
    omega
  have ha' := hp.mem_iff.1 ha
  have hb' := hq.mem_iff.1 hb
  obtain ⟨i, hi⟩ := List.getElem?_of_mem ha'
  obtain ⟨j, hj⟩ := List.getElem?_of_mem hb'
  obtain ⟨q1, e1⟩ := List.getElem?_eq_some_iff.1 hi
  obtain ⟨q2, e2⟩ := List.getElem?_eq_some_iff.1 hj
  have hpw := List.pairwise_iff_getElem.1 hd
  rcases Nat.lt_trichotomy i j with h | h | h
  · have := hpw i j q1 q2 h
    rw [e1, e2] at this
    exact absurd ((qCmp_zero _ _).1 h0) this
  · subst h
    exact e1.symm.trans e2
  · have := hpw j i q2 q1 h
    rw [e1, e2] at this
    exact absurd ((qCmp_zero _ _).1 (by rw [qCmp_anti]; omega)) this
/-- What the sort of the row gives. -/
theorem sort_merge {l : List Dp} {d d' : Array El} (hd : d.toList.map El.dp = uqD l) (hp : PermIn 0 d.size d d') (h3 : SortedIn elLt 0 d.size d') : d'.toList.map El.dp = mergeD l ∧ d'.size = d.size := by
  obtain ⟨h1, _, h2⟩ := hp
  have e1 : d'.extract 0 d.size = d' := by rw [← h1]; simp
  have e2 : d.extract 0 d.size = d := by simp
  rw [e1, e2] at h2
  refine ⟨sorted_is (uqD_dist l) (by rw [← hd]; exact h2.map _) ?_, h1⟩
  rw [List.pairwise_map]
  refine List.pairwise_iff_getElem.2 fun i j hi hj hij => ?_
  have := h3 i j (Nat.zero_le _) hij (by rw [← h1]; simpa using hj)
  simp only [Array.length_toList] at hi hj
  rw [getElem!_pos d' i hi, getElem!_pos d' j hj] at this
  simpa [leD, elLt] using this

/-- The map of queries that were met. -/
def SeenAt (w : World) (mb : Nat) (l : List Dp) : Prop := ∃ es n, IsMap QueryKey w mb es n ∧ (∀ e ∈ es, e.val = .bool true) ∧ ∀ (f : ByteArray) (t : Ty), (∃ e ∈ es, e.key = queryK f (keyOf t)) ↔ ∃ y ∈ l, y.fn = f ∧ y.ty = t
theorem SeenAt.kept {w w' : World} {mb : Nat} {l : List Dp} {M : List Nat} (h : SeenAt w mb l) (k : Kept M w w') (hn : mb ∉ M) : SeenAt w' mb l := by
  obtain ⟨es, n, h1, h2⟩ := h
  exact ⟨es, n, h1.kept k hn, h2⟩
theorem queryK_inj {f a f' a' : ByteArray} (h : queryK f a = queryK f' a') : f = f' ∧ a = a' := by
  unfold queryK at h
  simpa using h
theorem SeenAt.add {w' : World} {mb n : Nat} {l : List Dp} {es : List MapEntry} {x : Dp} (h2 : ∀ e ∈ es, e.val = .bool true)
    (h3 : ∀ (f : ByteArray) (t : Ty), (∃ e ∈ es, e.key = queryK f (keyOf t)) ↔ ∃ y ∈ l, y.fn = f ∧ y.ty = t)
    (h1 : IsMap QueryKey w' mb (es ++ [({ key := queryK x.fn (keyOf x.ty), val := .bool true, born := n } : MapEntry)]) (n + 1)) : SeenAt w' mb (l ++ [x]) := by
  refine ⟨_, _, h1, fun e he => ?_, fun f t => ?_⟩
  · rcases List.mem_append.1 he with he | he
    · exact h2 e he
    · rw [List.mem_singleton] at he; subst he; rfl
  · constructor
    · rintro ⟨e, he, hk⟩
      rcases List.mem_append.1 he with he | he
      · obtain ⟨y, hy, hq⟩ := (h3 f t).1 ⟨e, he, hk⟩
        exact ⟨y, by simp [hy], hq⟩
      · rw [List.mem_singleton] at he
        subst he
        obtain ⟨e1, e2⟩ := queryK_inj hk
        exact ⟨x, by simp, e1, keyOf_inj e2⟩
    · rintro ⟨y, hy, e1, e2⟩
      rcases List.mem_append.1 hy with hy | hy
      · obtain ⟨e, he, hk⟩ := (h3 f t).2 ⟨y, hy, e1, e2⟩
        exact ⟨e, by simp [he], hk⟩
      · rw [List.mem_singleton] at hy
        subst hy
        exact ⟨({ key := queryK y.fn (keyOf y.ty), val := .bool true, born := n } : MapEntry), by simp, by simp only; rw [e1, e2]⟩
end Go.Proofs.YtkldomkooleecaaGreatDoor

/-  A slice of dependencies of the call's own, as a row that can be sorted, and back. -/
namespace Go.Proofs.YtkldomkooleecaaGreatDoor
open Go.RowKit Go.Sort

theorem els_of {dd : Nat} {S : Nat → Prop} {w : World} : ∀ (l : List Dp) (es : List Value), es.length = l.length → (∀ (k : Nat) (x : Dp) (e : Value), l[k]? = some x → es[k]? = some e → DR dd S w e x) →
    ∃ ds : List El, ds.map El.dp = l ∧ ds.map El.ev = es ∧ ∀ x ∈ ds, DR dd S w x.ev x.dp
  | [], [], _, _ => ⟨[], rfl, rfl, by simp⟩
  | [], _ :: _, h, _ => by simp at h
  | _ :: _, [], h, _ => by simp at h
  | x :: l, e :: es, h, hq => by
    obtain ⟨ds, h1, h2, h3⟩ := els_of l es (by simpa using h) (fun k y f hy hf => hq (k + 1) y f (by simpa using hy) (by simpa using hf))
    have h0 := hq 0 x e rfl rfl
    obtain ⟨a1, c1, a2, c2, rfl, _⟩ := h0.pair
    refine ⟨⟨x, a1, c1, a2, c2⟩ :: ds, by simp [h1], by simp [h2, El.ev], fun y hy => ?_⟩
    rcases List.mem_cons.1 hy with rfl | hy
    · exact h0
    · exact h3 y hy
theorem zip_els : ∀ ds : List El, List.zipWith Dp.row (ds.map El.dp) (ds.map El.ev) = ds.map El.enc
  | [] => rfl
  | x :: ds => by simp [zip_els ds, El.enc]
theorem els_cell (ds : List El) (t : Nat) (h : t < ds.length * 7) : ((ds.map El.enc).flatten)[t]? = some ((flatK El.enc 7 ds.toArray)[t]!) := by
  have hd : t / 7 < ds.length := Nat.div_lt_of_lt_mul (by omega)
  have hm : t % 7 < 7 := Nat.mod_lt _ (by decide)
  have e1 : (ds.map El.enc)[t / 7]? = some (ds[t / 7]'hd).enc := by simp [hd]
  have e2 : ((ds[t / 7]'hd).enc)[t % 7]? = some (((ds[t / 7]'hd).enc)[t % 7]'(by rw [El.enc_len]; exact hm)) := by simp
  have := flatten_get (size := 7) (fun r hr => by obtain ⟨x, _, rfl⟩ := List.mem_map.1 hr; exact El.enc_len x) e1 e2
  rw [show t / 7 * 7 + t % 7 = t by omega] at this
  rw [this, get_flatK El.enc 7 ds.toArray t (by simpa using h)]
  rw [getElem!_pos ds.toArray (t / 7) (by simpa using hd)]
  rw [getElem!_pos ((ds.toArray[t / 7]'(by simpa using hd)).enc) (t % 7) (by rw [El.enc_len]; exact hm)]
  simp
theorem Gr.toSR {dd n cap g base : Nat} {S : Nat → Prop} {w : World} {l : List Dp} (h : Gr (fun S w e (x : Dp) => DR dd S w e x) Dp.row 7 45 S base w (.slice (some ⟨g, 0, none⟩) n cap) l) :
    ∃ d : Array El, d.toList.map El.dp = l ∧ d.size = n ∧ SR dd S w g cap d ∧ base ≤ g ∧ cap ≤ maxLen := by
  obtain ⟨es, h1, h2, h3⟩ := h
  obtain ⟨ds, e1, e2, e3⟩ := els_of l es h1 (fun k x e hx he => h3 k x e hx he)
  subst e1 e2
  have hrow := h2.row
  rw [zip_els] at hrow
  rcases hrow.2 with ⟨hv, _⟩ | ⟨g', cap', cur, hv, hb, hg, h4, h5, h6, h7⟩
  · cases hv
  · have hv' := hv
    simp only [Value.slice.injEq, Option.some.injEq, Addr.mk.injEq, and_true] at hv'
    obtain ⟨rfl, hn, rfl⟩ := hv'
    simp only [List.length_map] at hn h4 h7
    refine ⟨ds.toArray, by simp, by simpa using hn.symm, ⟨⟨cur, hg, h6⟩, by simpa using h4, fun j hj => ?_, fun x hx => ?_⟩, hb, h5⟩
    · have hj' : j < ds.length * 7 := by simpa using hj
      have hc := hrow.cells (g := g) (by rfl) j _ (els_cell ds j hj')
      rw [Addr.add_lit] at hc
      exact ⟨hc, by simp [World.frozen?, hg]⟩
    · refine (DR.good dd).mono (e3 x (by simpa using hx)) (fun b _ hq => ⟨hq.1, fun e => hq.2 (by rw [e]; rfl)⟩)
theorem SR.toGr {dd cap g base : Nat} {S : Nat → Prop} {w : World} {d : Array El} (h : SR dd S w g cap d) (hb : base ≤ g) (hc : cap ≤ maxLen) :
    Gr (fun S w e (x : Dp) => DR dd S w e x) Dp.row 7 45 S base w (.slice (some ⟨g, 0, none⟩) d.size cap) (d.toList.map El.dp) := by
  obtain ⟨⟨cur, h1, h2⟩, h3, h4, h5⟩ := h
  refine ⟨d.toList.map El.ev, by simp, ?_, fun k x e hx he => ?_⟩
  · rw [zip_els]
    refine ⟨⟨?_, .inr ⟨g, cap, cur, by simp, hb, h1, by simpa using h3, hc, h2, ?_⟩⟩, fun r hr => ?_⟩
    · rw [List.length_flatten]
      simp only [List.map_map, List.length_map]
      have : ∀ ds : List El, (ds.map (List.length ∘ El.enc)).sum = ds.length * 7 := by
        intro ds
        induction ds with
        | nil => rfl
        | cons x ds ih => simp only [List.map_cons, List.sum_cons, ih, Function.comp, El.enc_len, List.length_cons]; omega
      exact this _
    · apply List.ext_getElem?
      intro j
      simp only [List.length_map, Array.length_toList]
      by_cases hj : j < d.size * 7
      · rw [els_cell d.toList j (by simpa using hj), List.getElem?_take_of_lt hj]
        have := (h4 j (by simpa using hj)).1
        simp only [World.cell?, h1, Nat.zero_add] at this
        simpa using this
      · rw [List.getElem?_eq_none (by simp; omega), List.getElem?_eq_none]
        rw [List.length_flatten]
        simp only [List.map_map]
        have : ∀ ds : List El, (ds.map (List.length ∘ El.enc)).sum = ds.length * 7 := by
          intro ds
          induction ds with
          | nil => rfl
          | cons x ds ih => simp only [List.map_cons, List.sum_cons, ih, Function.comp, El.enc_len, List.length_cons]; omega
        rw [this]; simp; omega
    · obtain ⟨x, _, rfl⟩ := List.mem_map.1 hr
      exact ⟨El.enc_len x, El.enc_one x⟩
  · simp only [List.getElem?_map] at hx he
    cases hd : d.toList[k]? with
    | none => simp [hd] at hx
    | some y =>
      simp only [hd, Option.map_some, Option.some.injEq] at hx he
      subst hx he
      exact (DR.good dd).mono (h5 y (List.mem_of_getElem? hd)) (fun b _ hq => ⟨hq.1, fun e => hq.2 (by simpa [Value.ownBlock] using e.symm)⟩)
end Go.Proofs.YtkldomkooleecaaGreatDoor
