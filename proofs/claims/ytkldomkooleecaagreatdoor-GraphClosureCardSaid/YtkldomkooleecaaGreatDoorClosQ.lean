/- The law GraphClosure: what its walk carries. -/
import Derived.Test.YtkldomkooleecaaGreatDoorClosP
import Derived.Test.YtkldomkooleecaaGreatDoorQueue
namespace Go.Proofs.YtkldomkooleecaaGreatDoor
open Go.RowKit Go.Maps Go.MapKept

section
variable {β : Type} {Q : (Nat → Prop) → World → Value → β → Prop} {r : β → Value → List Value} {size : Nat} {S : Nat → Prop} {w : World} {v : Value} {l m : List β} {t : TypeId} {base : Nat}
/-- A list more at the end. -/
theorem Gr.app {w2 : World} {v' : Value} {es fs : List Value} (hQ : Good Q) (h1 : es.length = l.length) (h2 : fs.length = m.length)
    (h3 : ∀ (k : Nat) (x : β) (e : Value), l[k]? = some x → es[k]? = some e → Q (fun y => S y ∧ v.ownBlock ≠ some y) w e x)
    (h4 : ∀ (k : Nat) (x : β) (e : Value), m[k]? = some x → fs[k]? = some e → Q (fun y => S y ∧ v.ownBlock ≠ some y) w e x)
    (ho : Own w2 base t size v' (List.zipWith r l es ++ List.zipWith r m fs)) (hk : ∀ M, (∀ x, v.ownBlock = some x → x ∈ M) → Kept M w w2) (hl : v'.ownBlock = v.ownBlock ∨ ∃ g, v'.ownBlock = some g ∧ w.heap.size ≤ g) : Gr Q r size t S base w2 v' (l ++ m) := by
  have key : ∀ e x, Q (fun y => S y ∧ v.ownBlock ≠ some y) w e x → Q (fun y => S y ∧ v'.ownBlock ≠ some y) w2 e x := by
    intro e x h
    have h' : Q (fun y => S y ∧ v.ownBlock ≠ some y ∧ v'.ownBlock ≠ some y) w e x := hQ.mono h fun y hy hq => ⟨hq.1, hq.2, by
      rcases hl with hl | ⟨g, hg, hge⟩
      · rw [hl]; exact hq.2
      · rw [hg]; intro e; cases e; omega⟩
    exact hQ.mono (hQ.kept h' (hk v.ownBlock.toList (fun x hx => by simp [hx])) (fun x hx hq => hq.2.1 (by simpa using hx))) fun x _ hq => ⟨hq.1, hq.2.2⟩
  refine ⟨es ++ fs, by simp [h1, h2], by rw [List.zipWith_append h1.symm]; exact ho, fun k x' e' hx' he' => ?_⟩
  rcases Nat.lt_or_ge k es.length with hlt | hge
  · rw [List.getElem?_append_left hlt] at he'
    rw [List.getElem?_append_left (by omega)] at hx'
    exact key _ _ (h3 k x' e' hx' he')
  · rw [List.getElem?_append_right hge] at he'
    rw [List.getElem?_append_right (by omega), ← h1] at hx'
    exact key _ _ (h4 _ x' e' hx' he')
end

/-- The map of what was seen. -/
def SeenI (w : World) (mb : Nat) (sq : List Int) : Prop := ∃ es c, IsMap IntKey w mb es c ∧ (∀ e ∈ es, e.val = .bool true) ∧ ∀ x : Int, (∃ e ∈ es, e.key = .int .i64 x) ↔ x ∈ sq
theorem SeenI.kept {w w' : World} {mb : Nat} {sq : List Int} {M : List Nat} (h : SeenI w mb sq) (k : Kept M w w') (hn : mb ∉ M) : SeenI w' mb sq := by
  obtain ⟨es, c, h1, h2⟩ := h
  exact ⟨es, c, h1.kept k hn, h2⟩
theorem SeenI.look {w : World} {mb : Nat} {sq : List Int} (h : SeenI w mb sq) (u : Int) : (Instr.lookup 49 (.map (some mb)) (.int .i64 u) false).run Tryz.prog w = .ok (.bool (decide (u ∈ sq))) w := by
  obtain ⟨es, c, hm, hv, hiff⟩ := h
  by_cases hu : u ∈ sq
  · obtain ⟨e, he, hk⟩ := (hiff u).2 hu
    have := hm.lookup_some key_int Tryz.underlying49 he false
    rw [hk, hv e he] at this
    simpa [hu] using this
  · have := hm.lookup_none key_int Tryz.underlying49 (zero_bool w) (x := .int .i64 u) ⟨u, rfl⟩ (fun e he hk => hu ((hiff u).1 ⟨e, he, hk⟩)) false
    simpa [hu] using this
theorem SeenI.add {w' : World} {mb c : Nat} {sq : List Int} {u : Int} {es : List MapEntry} (h2 : ∀ e ∈ es, e.val = .bool true) (h3 : ∀ x : Int, (∃ e ∈ es, e.key = .int .i64 x) ↔ x ∈ sq)
    (h1 : IsMap IntKey w' mb (es ++ [({ key := .int .i64 u, val := .bool true, born := c } : MapEntry)]) (c + 1)) : SeenI w' mb (sq ++ [u]) := by
  refine ⟨_, _, h1, fun e he => ?_, fun x => ?_⟩
  · rcases List.mem_append.1 he with he | he
    · exact h2 e he
    · rw [List.mem_singleton] at he; subst he; rfl
  · rw [List.mem_append, ← h3 x]
    constructor
    · rintro ⟨e, he, hk⟩
      rcases List.mem_append.1 he with he | he
      · exact .inl ⟨e, he, hk⟩
      · rw [List.mem_singleton] at he
        subst he
        simp only [Value.int.injEq, true_and] at hk
        exact .inr (by simp [hk])
    · rintro (⟨e, he, hk⟩ | h)
      · exact ⟨e, by simp [he], hk⟩
      · simp only [List.mem_singleton] at h
        exact ⟨({ key := .int .i64 u, val := .bool true, born := c } : MapEntry), by simp, by rw [h]⟩

/-- The dependencies gathered so far: apart from the map and from the queue. -/
def AG (w : World) (mb g Bz : Nat) (v : Value) (l : List Dp) : Prop :=
  Gr (fun S w e (x : Dp) => DR 1 S w e x) Dp.row 7 45 (fun y => Bz ≤ y ∧ y ≠ mb ∧ y ≠ g) Bz w v l ∧ ∀ y, v.ownBlock = some y → y ≠ mb ∧ y ≠ g
theorem AG.kept {w w' : World} {mb g Bz : Nat} {v : Value} {l : List Dp} {M : List Nat} (h : AG w mb g Bz v l) (k : Kept M w w') (hM : ∀ y ∈ M, y = mb ∨ y = g) : AG w' mb g Bz v l :=
  ⟨Gr.kept (DR.good 1) h.1 k (fun y hy e => by have := h.2 y e; rcases hM y hy with q | q <;> omega) (fun y hy hS => by rcases hM y hy with q | q <;> omega), h.2⟩
theorem AG.move {w : World} {mb g g' Bz : Nat} {v : Value} {l : List Dp} (h : AG w mb g Bz v l) (hg : g' = g ∨ w.heap.size ≤ g') : AG w mb g' Bz v l := by
  rcases hg with rfl | hg
  · exact h
  · refine ⟨Gr.mono (DR.good 1) h.1 (Nat.le_refl _) (fun y hy hS => ⟨hS.1, hS.2.1, by omega⟩), fun y hy => ⟨(h.2 y hy).1, ?_⟩⟩
    have := (h.1.lt y hy).2
    omega
theorem AG.over {w w' : World} {mb g g' Bz : Nat} {v : Value} {l : List Dp} (h : AG w mb g Bz v l) (k : Kept [mb, g] w w') (hg : g' = g ∨ w.heap.size ≤ g') : AG w' mb g' Bz v l := by
  have h1 := Gr.mono (DR.good 1) h.1 (Nat.le_refl _) (S' := fun y => (Bz ≤ y ∧ y ≠ mb ∧ y ≠ g) ∧ y < w.heap.size) (fun y hy hS => ⟨hS, hy⟩)
  have h2 := Gr.kept (DR.good 1) h1 k (fun y hy e => by have := h.2 y e; simp at hy; omega) (fun y hy hS => by have := hS.1; simp at hy; omega)
  refine ⟨Gr.mono (DR.good 1) h2 (Nat.le_refl _) (fun y _ hS => ⟨hS.1.1, hS.1.2.1, by have := hS.1.2.2; have := hS.2; omega⟩), fun y hy => ⟨(h.2 y hy).1, ?_⟩⟩
  have h3 := h.2 y hy
  have h4 := (h.1.lt y hy).2
  omega
theorem AG.app {w1 w5 w6 : World} {mb g Bz : Nat} {v v5 v6 : Value} {l ds : List Dp} {es fs : List Value} (h2 : ∀ y, v.ownBlock = some y → Bz ≤ y ∧ y < w1.heap.size ∧ y ≠ mb ∧ y ≠ g) (n1 : es.length = l.length)
    (n3 : ∀ (k : Nat) (x : Dp) (e : Value), l[k]? = some x → es[k]? = some e → DR 1 (fun y => (Bz ≤ y ∧ y ≠ mb ∧ y ≠ g) ∧ v.ownBlock ≠ some y) w1 e x) (hk : Kept [] w1 w5) (m1 : fs.length = ds.length)
    (m3 : ∀ (k : Nat) (x : Dp) (e : Value), ds[k]? = some x → fs[k]? = some e → DR 1 (fun y => w1.heap.size ≤ y ∧ v5.ownBlock ≠ some y) w5 e x) (hmb : mb < w1.heap.size) (hg : g < w1.heap.size) (hB : Bz ≤ w1.heap.size)
    (ho : Own w6 Bz 45 7 v6 (List.zipWith Dp.row l es ++ List.zipWith Dp.row ds fs)) (hk6 : ∀ M, (∀ x, v.ownBlock = some x → x ∈ M) → Kept M w5 w6) (hl : v6.ownBlock = v.ownBlock ∨ ∃ q, v6.ownBlock = some q ∧ w5.heap.size ≤ q) :
    AG w6 mb g Bz v6 (l ++ ds) := by
  have hs := hk.size
  refine ⟨Gr.app (DR.good 1) n1 m1 (fun k x e hx he => (DR.good 1).kept (n3 k x e hx he) hk (by simp)) (fun k x e hx he => (DR.good 1).mono (m3 k x e hx he) (fun y _ hy => ⟨⟨by omega, by omega, by omega⟩, fun e => by have := (h2 y e).2.1; omega⟩)) ho hk6 hl, fun y hy => ?_⟩
  rcases hl with hl | ⟨q, hq, hqs⟩
  · exact (h2 y (by rw [← hl]; exact hy)).2.2
  · rw [hq] at hy
    cases hy
    exact ⟨by omega, by omega⟩

theorem usesOf_rng {w : World} {b nb eb base k : Nat} {ns : List Nd} (hb : Bt w b nb eb base k ns) {x u : Int} (hu : u ∈ usesOf ns x) : 1 ≤ u ∧ u ≤ k := by
  unfold usesOf at hu
  cases hx : nodeOf ns x with
  | none => rw [hx] at hu; simp at hu
  | some m =>
    rw [hx] at hu
    have h1 := (hb.closed m (nodeOf_some hx).1 u hu).2
    cases hy : nodeOf ns u with
    | none => exact absurd hy h1
    | some z =>
      obtain ⟨q1, q2⟩ := nodeOf_some hy
      have := hb.gat.rng z q1
      omega
theorem usesOf_len {w : World} {b nb eb base k : Nat} {ns : List Nd} (hb : Bt w b nb eb base k ns) (x : Int) : (usesOf ns x).length ≤ 1000 := by
  unfold usesOf
  cases hx : nodeOf ns x with
  | none => simp
  | some m => exact (hb.gat.data m (nodeOf_some hx).1).2.2.2
theorem depsOf_len {w : World} {b nb eb base k : Nat} {ns : List Nd} (hb : Bt w b nb eb base k ns) (x : Int) : (depsOf ns x).length ≤ 1000 := by
  unfold depsOf
  cases hx : nodeOf ns x with
  | none => simp
  | some m => exact (hb.gat.data m (nodeOf_some hx).1).2.2.1
theorem seen_len {w : World} {b nb eb base k : Nat} {ns : List Nd} (hb : Bt w b nb eb base k ns) {a : Int} (h1 : 1 ≤ a) (h2 : a ≤ k) {sq : List Int} (hr : ∀ x ∈ sq, Reach ns a x) (hn : sq.Nodup) : sq.length ≤ k := by
  have hin : ∀ x ∈ sq, 1 ≤ x ∧ x ≤ k := fun x hx => by
    have := hr x hx
    cases this with
    | refl => exact ⟨h1, h2⟩
    | step _ hu => exact usesOf_rng hb hu
  have hn2 : (sq.map Int.toNat).Nodup := by
    unfold List.Nodup
    rw [List.pairwise_map]
    refine List.Pairwise.imp_of_mem (fun {x y} hx hy hne e => hne ?_) hn
    have := hin x hx
    have := hin y hy
    omega
  have := nodup_le (m := (List.range k).map (· + 1)) hn2 (fun x hx => by
    obtain ⟨y, hy, rfl⟩ := List.mem_map.1 hx
    have := hin y hy
    exact List.mem_map.2 ⟨y.toNat - 1, by rw [List.mem_range]; omega, by omega⟩)
  simpa using this
theorem all_len {w : World} {b nb eb base k : Nat} {ns : List Nd} (hb : Bt w b nb eb base k ns) : ∀ (l : List Int), ((l.map (depsOf ns)).flatten).length ≤ 1000 * l.length
  | [] => by simp
  | x :: l => by
    have h1 := all_len hb l
    have h2 := depsOf_len hb x
    simp only [List.map_cons, List.flatten_cons, List.length_append, List.length_cons]
    omega
/-- Among the uses of the one that is looked at, i were taken. -/
structure SrchI (ns : List Nd) (a : Int) (sq : List Int) (p : Nat) (x : Int) (i : Nat) : Prop where
  has : a ∈ sq
  at_ : sq[p]? = some x
  reach : ∀ y ∈ sq, Reach ns a y
  done : ∀ y ∈ sq.take p, ∀ u ∈ usesOf ns y, u ∈ sq
  took : ∀ u ∈ (usesOf ns x).take i, u ∈ sq
  nodup : sq.Nodup
theorem Srch.enter {ns : List Nd} {a x : Int} {sq : List Int} {p : Nat} (h : Srch ns a sq p) (hx : sq[p]? = some x) : SrchI ns a sq p x 0 := ⟨h.has, hx, h.reach, h.done, by simp, h.nodup⟩
theorem SrchI.old {ns : List Nd} {a x u : Int} {sq : List Int} {p i : Nat} (h : SrchI ns a sq p x i) (hu : (usesOf ns x)[i]? = some u) (hin : u ∈ sq) : SrchI ns a sq p x (i + 1) :=
  ⟨h.has, h.at_, h.reach, h.done, fun y hy => by
    rw [List.take_add_one, hu] at hy
    rcases List.mem_append.1 hy with hy | hy
    · exact h.took y hy
    · simp at hy; rw [hy]; exact hin, h.nodup⟩
theorem SrchI.new {ns : List Nd} {a x u : Int} {sq : List Int} {p i : Nat} (h : SrchI ns a sq p x i) (hu : (usesOf ns x)[i]? = some u) (hin : u ∉ sq) : SrchI ns a (sq ++ [u]) p x (i + 1) := by
  have hpl : p < sq.length := (List.getElem?_eq_some_iff.1 h.at_).1
  refine ⟨by simp [h.has], by rw [List.getElem?_append_left hpl]; exact h.at_, fun y hy => ?_, fun y hy z hz => ?_, fun y hy => ?_, ?_⟩
  · rcases List.mem_append.1 hy with hy | hy
    · exact h.reach y hy
    · simp at hy; subst hy
      exact .step (h.reach x (List.mem_of_getElem? h.at_)) (List.mem_of_getElem? hu)
  · rw [List.take_append_of_le_length (by omega)] at hy
    exact List.mem_append_left _ (h.done y hy z hz)
  · rw [List.take_add_one, hu] at hy
    rcases List.mem_append.1 hy with hy | hy
    · exact List.mem_append_left _ (h.took y hy)
    · simp at hy; simp [hy]
  · rw [List.nodup_append]
    refine ⟨h.nodup, by simp, fun y hy z hz e => ?_⟩
    simp at hz
    subst hz e
    exact hin hy
theorem SrchI.leave {ns : List Nd} {a x : Int} {sq : List Int} {p i : Nat} (h : SrchI ns a sq p x i) (hi : (usesOf ns x).length ≤ i) : Srch ns a sq (p + 1) := by
  have hpl : p < sq.length := (List.getElem?_eq_some_iff.1 h.at_).1
  refine ⟨h.has, hpl, h.reach, fun y hy u hu => ?_, h.nodup⟩
  rw [List.take_add_one, h.at_] at hy
  rcases List.mem_append.1 hy with hy | hy
  · exact h.done y hy u hu
  · simp at hy; subst hy
    exact h.took u (by rw [List.take_of_length_le hi]; exact hu)
end Go.Proofs.YtkldomkooleecaaGreatDoor
