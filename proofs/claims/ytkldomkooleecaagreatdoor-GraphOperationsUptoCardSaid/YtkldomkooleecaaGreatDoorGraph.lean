/- The dependency graph in memory. -/
import Derived.Test.YtkldomkooleecaaGreatDoorKeys
import Derived.Test.YtkldomkooleecaaGreatDoorEqDeps
namespace Go.Proofs.YtkldomkooleecaaGreatDoor
open Go.RowKit Go.Maps Go.MapKept

/-- A node: its number, dependencies and uses; the two slices; its entry's stamp. -/
structure Nd where
  num : Int
  deps : List Dp
  uses : List Int
  dv : Value
  uv : Value
  born : Nat
def Nd.ent (x : Nd) : MapEntry := { key := .int .i64 x.num, val := .agg #[x.dv, x.uv], born := x.born }
/-- Does x use y? -/
def edgeB (ns : List Nd) (x y : Int) : Bool := ns.any fun m => m.num == x && m.uses.contains y
/-- The map of edges. -/
def Edges (w : World) (eb : Nat) (ns : List Nd) : Prop := ∃ es n, IsMap PairKey w eb es n ∧ (∀ e ∈ es, e.val = .bool true) ∧ ∀ x y : Int, (∃ e ∈ es, e.key = pairK x y) ↔ edgeB ns x y = true
structure GAt (d : Nat) (w : World) (b nb eb base : Nat) (last : Nat) (ns : List Nd) : Prop where
  lt1 : b < base
  lt2 : nb < base
  lt3 : eb < base
  lt4 : base ≤ w.heap.size
  ne1 : b ≠ nb
  ne2 : b ≠ eb
  ne3 : nb ≠ eb
  blk : Blk w b [.int .i64 last, .map (some nb), .map (some eb)] 67
  nodes : ∃ n, IsMap IntKey w nb (ns.map Nd.ent) n
  edges : Edges w eb ns
  data : ∀ x ∈ ns, DL d (base ≤ ·) w x.dv x.deps ∧ Reads (base ≤ ·) w x.uv 1 (irows x.uses) ∧ x.deps.length ≤ 1000 ∧ x.uses.length ≤ 1000
  nums : ns.Pairwise (fun x y => x.num < y.num)
  rng : ∀ x ∈ ns, 1 ≤ x.num ∧ x.num ≤ last

theorem Edges.kept {w w' : World} {eb : Nat} {ns : List Nd} {M : List Nat} (h : Edges w eb ns) (k : Kept M w w') (hn : eb ∉ M) : Edges w' eb ns := by
  obtain ⟨es, n, h1, h2⟩ := h
  exact ⟨es, n, h1.kept k hn, h2⟩
section
variable {d : Nat} {w w' : World} {b nb eb base last : Nat} {ns : List Nd}
theorem GAt.kept {M : List Nat} (h : GAt d w b nb eb base last ns) (k : Kept M w w') (hn : ∀ x ∈ M, x < base ∧ x ≠ b ∧ x ≠ nb ∧ x ≠ eb) : GAt d w' b nb eb base last ns :=
  ⟨h.lt1, h.lt2, h.lt3, Nat.le_trans h.lt4 k.size, h.ne1, h.ne2, h.ne3, h.blk.kept k (fun hx => (hn b hx).2.1 rfl),
    by obtain ⟨n, hm⟩ := h.nodes; exact ⟨n, hm.kept k (fun hx => (hn nb hx).2.2.1 rfl)⟩, h.edges.kept k (fun hx => (hn eb hx).2.2.2 rfl),
    fun x hx => by
      obtain ⟨h1, h2, h3⟩ := h.data x hx
      exact ⟨(DL.good d).kept h1 k (fun y hy hb => by have := (hn y hy).1; omega), h2.kept k (fun y hy hb => by have := (hn y hy).1; omega), h3⟩, h.nums, h.rng⟩
theorem GAt.kept0 (h : GAt d w b nb eb base last ns) (k : Kept [] w w') : GAt d w' b nb eb base last ns := h.kept k (by simp)

/-- The node with a number. -/
def nodeOf (ns : List Nd) (n : Int) : Option Nd := ns.find? fun x => x.num == n
def depsOf (ns : List Nd) (n : Int) : List Dp := match nodeOf ns n with | some x => x.deps | none => []
def usesOf (ns : List Nd) (n : Int) : List Int := match nodeOf ns n with | some x => x.uses | none => []
theorem nodeOf_some {n : Int} {x : Nd} (h : nodeOf ns n = some x) : x ∈ ns ∧ x.num = n := by
  refine ⟨List.mem_of_find?_eq_some h, ?_⟩
  have := List.find?_some (p := fun x : Nd => x.num == n) h
  simpa using this
theorem nodeOf_none {n : Int} (h : nodeOf ns n = none) : ∀ x ∈ ns, x.num ≠ n := by
  intro x hx
  have := List.find?_eq_none.1 h x hx
  simpa using this
theorem nums_unique (h : ns.Pairwise (fun x y => x.num < y.num)) {x y : Nd} (hx : x ∈ ns) (hy : y ∈ ns) (e : x.num = y.num) : x = y := by
  obtain ⟨i, hi⟩ := List.getElem?_of_mem hx
  obtain ⟨j, hj⟩ := List.getElem?_of_mem hy
  have hp := List.pairwise_iff_getElem.1 h
  obtain ⟨h1, e1⟩ := List.getElem?_eq_some_iff.1 hi
  obtain ⟨h2, e2⟩ := List.getElem?_eq_some_iff.1 hj
  rcases Nat.lt_trichotomy i j with hl | hl | hl
  · have := hp i j h1 h2 hl; rw [e1, e2] at this; omega
  · subst hl; exact e1.symm.trans e2
  · have := hp j i h2 h1 hl; rw [e1, e2] at this; omega
theorem nodeOf_mem (h : ns.Pairwise (fun x y => x.num < y.num)) {x : Nd} (hx : x ∈ ns) : nodeOf ns x.num = some x := by
  cases hn : nodeOf ns x.num with
  | none => exact absurd rfl (nodeOf_none hn x hx)
  | some y =>
    obtain ⟨h1, h2⟩ := nodeOf_some hn
    rw [nums_unique h h1 hx h2]

theorem zero_node (w : World) : (zeroValue 63).run Tryz.prog w = .ok (.agg #[.slice none 0 0, .slice none 0 0]) w := by
  have h : (Tryz.prog.info? 63).map (fun i => i.zero) = some (some (.agg #[.slice none 0 0, .slice none 0 0])) := by kernel_rfl
  cases hi : Tryz.prog.info? 63 with
  | none => simp [hi] at h
  | some i => simp [hi] at h; simp [zeroValue, typeInfo, hi, h]
theorem zero_bool (w : World) : (zeroValue 4).run Tryz.prog w = .ok (.bool false) w := by
  have h : (Tryz.prog.info? 4).map (fun i => i.zero) = some (some (.bool false)) := by kernel_rfl
  cases hi : Tryz.prog.info? 4 with
  | none => simp [hi] at h
  | some i => simp [hi] at h; simp [zeroValue, typeInfo, hi, h]
theorem GAt.look_some (h : GAt d w b nb eb base last ns) {n : Int} {x : Nd} (hx : nodeOf ns n = some x) (co : Bool) :
    (Instr.lookup 64 (.map (some nb)) (.int .i64 n) co).run Tryz.prog w = .ok (if co then .tuple #[.agg #[x.dv, x.uv], .bool true] else .agg #[x.dv, x.uv]) w := by
  obtain ⟨c, hm⟩ := h.nodes
  obtain ⟨h1, h2⟩ := nodeOf_some hx
  have := hm.lookup_some key_int Tryz.underlying64 (e := x.ent) (List.mem_map.2 ⟨x, h1, rfl⟩) co
  simpa [Nd.ent, h2] using this
theorem GAt.look_none (h : GAt d w b nb eb base last ns) {n : Int} (hx : nodeOf ns n = none) (co : Bool) :
    (Instr.lookup 64 (.map (some nb)) (.int .i64 n) co).run Tryz.prog w = .ok (if co then .tuple #[.agg #[.slice none 0 0, .slice none 0 0], .bool false] else .agg #[.slice none 0 0, .slice none 0 0]) w := by
  obtain ⟨c, hm⟩ := h.nodes
  refine hm.lookup_none key_int Tryz.underlying64 (zero_node w) ⟨n, rfl⟩ (fun e he => ?_) co
  obtain ⟨x, hx', rfl⟩ := List.mem_map.1 he
  have := nodeOf_none hx x hx'
  simpa [Nd.ent] using this
theorem GAt.look_edge (h : GAt d w b nb eb base last ns) (x y : Int) :
    (Instr.lookup 65 (.map (some eb)) (.agg #[.int .i64 x, .int .i64 y]) false).run Tryz.prog w = .ok (.bool (edgeB ns x y)) w := by
  obtain ⟨es, c, hm, hv, hiff⟩ := h.edges
  cases he : edgeB ns x y
  · have := hm.lookup_none key_pair Tryz.underlying65 (zero_bool w) (x := pairK x y) ⟨x, y, rfl⟩ (fun e hm' hk => by
      have := (hiff x y).1 ⟨e, hm', hk⟩
      rw [he] at this
      cases this) false
    exact this
  · obtain ⟨e, hm', hk⟩ := (hiff x y).2 he
    have := hm.lookup_some key_pair Tryz.underlying65 hm' false
    rw [hk, hv e hm'] at this
    exact this
end

theorem field_fst (a b : Value) (w : World) : (Instr.field 63 (.agg #[a, b]) 0).run Tryz.prog w = .ok a w := by kernel_rfl
theorem field_snd (a b : Value) (w : World) : (Instr.field 63 (.agg #[a, b]) 1).run Tryz.prog w = .ok b w := by kernel_rfl

set_option maxRecDepth 100000 in
theorem gNew (d : Nat) (w : World) : Calls Tryz.prog 21 #[] w fun e w' => e = .returned (.pointer (some ⟨w.heap.size + 2, 0, none⟩)) ∧ GAt d w' (w.heap.size + 2) w.heap.size (w.heap.size + 1) w'.heap.size 0 [] ∧ Kept [] w w' ∧ w.heap.size + 3 ≤ w'.heap.size := by
  have hmm := @run_makeMap Tryz.prog
  go_enter Tryz.func21, Tryz.ntmps21
  go_wp2
  go_ret
  refine ⟨rfl, ⟨by simp, by simp; omega, by simp, Nat.le_refl _, by omega, by omega, by omega, halloc_new _ _ _ (by simp), ⟨0, .empty ?_⟩, ⟨[], 0, .empty ?_, by simp, by simp [edgeB]⟩, by simp, by simp, by simp⟩, (((Kept.refl [] w).alloc _).alloc _).alloc _, by simp⟩
  · exact (halloc_old _ _ _ (by simp; omega)).trans ((halloc_old _ _ _ (by simp)).trans (halloc_new _ _ _ rfl))
  · exact (halloc_old _ _ _ (by simp)).trans (halloc_new _ _ _ (by simp))

set_option maxRecDepth 100000 in
theorem gHas (d : Nat) (b nb eb base last : Nat) (ns : List Nd) (n : Int) (w : World) (h : GAt d w b nb eb base last ns) :
    Calls Tryz.prog 28 #[.pointer (some ⟨b, 0, none⟩), .int .i64 n] w fun e w' => e = .returned (.bool (nodeOf ns n).isSome) ∧ Kept [] w w' := by
  have e1 := h.blk.cell 1 _ rfl
  cases hx : nodeOf ns n with
  | none =>
    have hlk := h.look_none hx true
    simp only [if_true] at hlk
    clear h hx
    go_enter Tryz.func28, Tryz.ntmps28
    go_wp2
    go_ret
    exact ⟨rfl, (Kept.refl [] w).alloc _⟩
  | some x =>
    have hlk := h.look_some hx true
    simp only [if_true] at hlk
    obtain ⟨hd, hu, _⟩ := h.data x (nodeOf_some hx).1
    obtain ⟨a1, c1, hdv, _⟩ := hd.form
    obtain ⟨a2, c2, huv, _⟩ := hu.ints
    rw [hdv, huv] at hlk
    clear h hx hd hu hdv huv
    go_enter Tryz.func28, Tryz.ntmps28
    go_wp2
    go_ret
    exact ⟨rfl, (Kept.refl [] w).alloc _⟩

set_option maxRecDepth 100000 in
theorem gOwnDeps (d : Nat) (b nb eb base last : Nat) (ns : List Nd) (n : Int) (w : World) (h : GAt d w b nb eb base last ns) :
    Calls Tryz.prog 16 #[.pointer (some ⟨b, 0, none⟩), .int .i64 n] w fun e w' => ∃ v', e = .returned v' ∧ Gr (fun S w e (x : Dp) => DR d S w e x) Dp.row 7 45 (w.heap.size ≤ ·) w.heap.size w' v' (depsOf ns n) ∧ Kept [] w w' := by
  have e1 := h.blk.cell 1 _ rfl
  unfold depsOf
  cases hx : nodeOf ns n with
  | none =>
    have hlk := h.look_none hx false
    simp only [Bool.false_eq_true, if_false] at hlk
    clear h hx
    have hfd := field_fst
    go_enter Tryz.func16, Tryz.ntmps16
    go_wp2_with (go_at_call 36; refine Calls.mono (ownDeps d (S := fun _ => True) _ [] _ (DL.nil _ _ _) (by simp)) ?_; rintro e w1 ⟨v1, rfl, hg, hk⟩; have HG := Lib.hid hg; clear hg)
    go_ret
    exact ⟨_, rfl, HG.out, hk⟩
  | some x =>
    have hlk := h.look_some hx false
    simp only [Bool.false_eq_true, if_false] at hlk
    obtain ⟨hd, hu, hl1, hl2⟩ := h.data x (nodeOf_some hx).1
    obtain ⟨a1, c1, hdv, _⟩ := hd.form
    obtain ⟨a2, c2, huv, _⟩ := hu.ints
    rw [hdv, huv] at hlk
    rw [hdv] at hd
    have HD := Lib.hid hd
    clear h hx hd hu hdv huv
    have hfd := field_fst
    go_enter Tryz.func16, Tryz.ntmps16
    go_wp2_with (go_at_call 36; refine Calls.mono (ownDeps d (S := (base ≤ ·)) _ x.deps _ (by exact HD.out) (by omega)) ?_; rintro e w1 ⟨v1, rfl, hg, hk⟩; have HG := Lib.hid hg; clear hg)
    go_ret
    exact ⟨_, rfl, HG.out, hk⟩

set_option maxRecDepth 100000 in
theorem gUses (d : Nat) (b nb eb base last : Nat) (ns : List Nd) (n : Int) (w : World) (h : GAt d w b nb eb base last ns) :
    Calls Tryz.prog 10 #[.pointer (some ⟨b, 0, none⟩), .int .i64 n] w fun e w' => ∃ v', e = .returned v' ∧ Own w' w.heap.size 3 1 v' (irows (usesOf ns n)) ∧ Kept [] w w' := by
  have e1 := h.blk.cell 1 _ rfl
  unfold usesOf
  cases hx : nodeOf ns n with
  | none =>
    have hlk := h.look_none hx false
    simp only [Bool.false_eq_true, if_false] at hlk
    clear h hx
    have hfd := field_snd
    go_enter Tryz.func10, Tryz.ntmps10
    go_wp2_with (go_at_call 23; refine Calls.mono (ownInts (S := fun _ => True) _ [] _ (Reads.nil _ _ _) (by simp)) ?_; rintro e w1 ⟨v1, rfl, hg, hk⟩; have HG := Lib.hid hg; clear hg)
    go_ret
    exact ⟨_, rfl, HG.out, hk⟩
  | some x =>
    have hlk := h.look_some hx false
    simp only [Bool.false_eq_true, if_false] at hlk
    obtain ⟨hd, hu, hl1, hl2⟩ := h.data x (nodeOf_some hx).1
    obtain ⟨a1, c1, hdv, _⟩ := hd.form
    obtain ⟨a2, c2, huv, _⟩ := hu.ints
    rw [hdv, huv] at hlk
    rw [huv] at hu
    have HU := Lib.hid hu
    clear h hx hd hu hdv huv
    have hfd := field_snd
    go_enter Tryz.func10, Tryz.ntmps10
    go_wp2_with (go_at_call 23; refine Calls.mono (ownInts (S := (base ≤ ·)) _ x.uses _ (by exact HU.out) (by omega)) ?_; rintro e w1 ⟨v1, rfl, hg, hk⟩; have HG := Lib.hid hg; clear hg)
    go_ret
    exact ⟨_, rfl, HG.out, hk⟩
end Go.Proofs.YtkldomkooleecaaGreatDoor
