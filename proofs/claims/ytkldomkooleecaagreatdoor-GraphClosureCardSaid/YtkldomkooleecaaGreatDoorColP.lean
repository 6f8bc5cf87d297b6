/- All dependencies of a node: plain facts, and what the walk of collect carries. -/
import Derived.Test.YtkldomkooleecaaGreatDoorMrg
import Derived.Test.YtkldomkooleecaaGreatDoorGAdd
namespace Go.Proofs.YtkldomkooleecaaGreatDoor
open Go.RowKit Go.Maps Go.MapKept

/-- Every node uses smaller ones, and they are there. -/
def Closed (ns : List Nd) : Prop := ∀ x ∈ ns, ∀ u ∈ x.uses, u < x.num ∧ nodeOf ns u ≠ none
def allF (ns : List Nd) : Nat → Int → List Dp
  | 0, _ => []
  | f + 1, n => mergeD (depsOf ns n ++ ((usesOf ns n).map (allF ns f)).flatten)
/-- The dependencies of a node, direct and indirect. -/
def allD (ns : List Nd) (n : Int) : List Dp := allF ns (n.toNat + 1) n
def allDeps (ns : List Nd) (n : Int) : List Dp := match nodeOf ns n with | some _ => allD ns n | none => []
theorem allF_fuel {ns : List Nd} {last : Nat} (hc : Closed ns) (hr : ∀ x ∈ ns, 1 ≤ x.num ∧ x.num ≤ last) : ∀ (f f' : Nat) (n : Int), n.toNat < f → n.toNat < f' → allF ns f n = allF ns f' n
  | 0, _, _, h, _ => by omega
  | _ + 1, 0, _, _, h => by omega
  | f + 1, f' + 1, n, h, h' => by
    rw [allF, allF]
    congr 3
    apply List.map_congr_left
    intro u hu
    unfold usesOf at hu
    cases hx : nodeOf ns n with
    | none => rw [hx] at hu; simp at hu
    | some x =>
      rw [hx] at hu
      simp only at hu
      obtain ⟨hm, hn⟩ := nodeOf_some hx
      obtain ⟨h1, h2⟩ := hc x hm u hu
      have h3 : 1 ≤ u := by
        cases hy : nodeOf ns u with
        | none => exact absurd hy h2
        | some y =>
          obtain ⟨q1, q2⟩ := nodeOf_some hy
          have := (hr y q1).1
          omega
      exact allF_fuel hc hr f f' u (by omega) (by omega)
theorem allD_eq {ns : List Nd} {last : Nat} (hc : Closed ns) (hr : ∀ x ∈ ns, 1 ≤ x.num ∧ x.num ≤ last) {n : Int} {x : Nd} (hx : nodeOf ns n = some x) : allD ns n = mergeD (x.deps ++ (x.uses.map (allD ns)).flatten) := by
  unfold allD
  rw [allF]
  unfold depsOf usesOf
  rw [hx]
  simp only
  congr 3
  apply List.map_congr_left
  intro u hu
  obtain ⟨hm, hn⟩ := nodeOf_some hx
  obtain ⟨h1, h2⟩ := hc x hm u hu
  have h3 : 1 ≤ u := by
    cases hy : nodeOf ns u with
    | none => exact absurd hy h2
    | some y =>
      obtain ⟨q1, q2⟩ := nodeOf_some hy
      have := (hr y q1).1
      omega
  exact allF_fuel hc hr _ _ u (by omega) (by omega)
theorem mergeD_sub (l : List Dp) : ∀ y ∈ mergeD l, y ∈ l := fun y hy => uqD_sub l y ((List.mergeSort_perm _ _).mem_iff.1 hy)
theorem allF_P {P : Dp → Prop} {ns : List Nd} (hP : ∀ x ∈ ns, ∀ y ∈ x.deps, P y) : ∀ (f : Nat) (n : Int), ∀ y ∈ allF ns f n, P y
  | 0, _, y, h => by simp [allF] at h
  | f + 1, n, y, h => by
    rw [allF] at h
    have := mergeD_sub _ y h
    rcases List.mem_append.1 this with h | h
    · unfold depsOf at h
      cases hx : nodeOf ns n with
      | none => rw [hx] at h; simp at h
      | some x => rw [hx] at h; exact hP x (nodeOf_some hx).1 y h
    · obtain ⟨l, hl, hy⟩ := List.mem_flatten.1 h
      obtain ⟨u, _, rfl⟩ := List.mem_map.1 hl
      exact allF_P hP f u y hy
/-- Few different queries. -/
def Cov (Q : List Dp) (y : Dp) : Prop := ∃ q ∈ Q, q.fn = y.fn ∧ q.ty = y.ty
theorem dist_len {l Q : List Dp} (h : DistQ l) (hc : ∀ y ∈ l, Cov Q y) : l.length ≤ Q.length := by
  have hn : (l.map fun y => (y.fn, y.ty)).Nodup := by
    unfold List.Nodup
    rw [List.pairwise_map]
    exact h.imp (fun h e => h (by simp only [Prod.mk.injEq] at e; exact e))
  have := nodup_le (m := Q.map fun y => (y.fn, y.ty)) hn (fun x hx => by
    obtain ⟨y, hy, rfl⟩ := List.mem_map.1 hx
    obtain ⟨q, hq, e1, e2⟩ := hc y hy
    exact List.mem_map.2 ⟨q, hq, by rw [e1, e2]⟩)
  simpa using this
theorem uq_few {l Q : List Dp} (hc : ∀ y ∈ l, Cov Q y) : (uqD l).length ≤ Q.length := dist_len (uqD_dist l) (fun y hy => hc y (uqD_sub l y hy))
theorem mergeD_len (l : List Dp) : (mergeD l).length = (uqD l).length := by simp [mergeD]

/-- The graph while collect runs: the memo lies at mb. -/
structure CAt (d : Nat) (w : World) (b nb eb base mb last : Nat) (ns : List Nd) : Prop where
  lt1 : b < base
  lt2 : nb < base
  le : base ≤ mb
  blk : Blk w b [.int .i64 last, .map (some nb), .map (some eb)] 67
  nodes : ∃ n, IsMap IntKey w nb (ns.map Nd.ent) n
  data : ∀ x ∈ ns, DL d (fun y => base ≤ y ∧ y ≠ mb) w x.dv x.deps ∧ Reads (fun y => base ≤ y ∧ y ≠ mb) w x.uv 1 (irows x.uses) ∧ x.deps.length ≤ 1000 ∧ x.uses.length ≤ 1000
theorem CAt.kept {d : Nat} {w w' : World} {b nb eb base mb last : Nat} {ns : List Nd} {M : List Nat} (h : CAt d w b nb eb base mb last ns) (k : Kept M w w') (hM : ∀ y ∈ M, y = mb) : CAt d w' b nb eb base mb last ns := by
  have q1 := h.lt1
  have q2 := h.lt2
  have q3 := h.le
  refine ⟨h.lt1, h.lt2, h.le, h.blk.kept k (fun hy => by have := hM b hy; omega), ?_, fun x hx => ?_⟩
  · obtain ⟨n, hn⟩ := h.nodes
    exact ⟨n, hn.kept k (fun hy => by have := hM nb hy; omega)⟩
  · obtain ⟨h1, h2, h3⟩ := h.data x hx
    exact ⟨(DL.good d).kept h1 k (fun y hy hq => hq.2 (hM y hy)), h2.kept k (fun y hy hq => hq.2 (hM y hy)), h3⟩
theorem GAt.cat {d : Nat} {w w' : World} {b nb eb base last : Nat} {ns : List Nd} (h : GAt d w b nb eb base last ns) (k : Kept [] w w') {mb : Nat} (hm : mb = w.heap.size) : CAt d w' b nb eb base mb last ns := by
  subst hm
  have hc : CAt d w b nb eb base w.heap.size last ns := ⟨h.lt1, h.lt2, h.lt4, h.blk, h.nodes, fun x hx => by
    obtain ⟨h1, h2, h3⟩ := h.data x hx
    exact ⟨(DL.good d).mono h1 (fun y hy hq => ⟨hq, by omega⟩), h2.mono (fun y hy hq => ⟨hq, by omega⟩), h3⟩⟩
  exact hc.kept k (by simp)
theorem CAt.look {d : Nat} {w : World} {b nb eb base mb last : Nat} {ns : List Nd} (h : CAt d w b nb eb base mb last ns) {n : Int} {x : Nd} (hx : nodeOf ns n = some x) :
    (Instr.lookup 64 (.map (some nb)) (.int .i64 n) false).run Tryz.prog w = .ok (.agg #[x.dv, x.uv]) w := by
  obtain ⟨c, hm⟩ := h.nodes
  obtain ⟨h1, h2⟩ := nodeOf_some hx
  have := hm.lookup_some key_int Tryz.underlying64 (e := x.ent) (List.mem_map.2 ⟨x, h1, rfl⟩) false
  simpa [Nd.ent, h2] using this
/-- The memo: what was reckoned; its lists read by blocks of S. -/
def Memo (d : Nat) (S : Nat → Prop) (w : World) (mb : Nat) (ns : List Nd) : Prop := ∃ es n, IsMap IntKey w mb es n ∧ ∀ e ∈ es, ∀ k : Int, e.key = .int .i64 k → DL d S w e.val (allD ns k)
theorem Memo.kept {d : Nat} {S : Nat → Prop} {w w' : World} {mb : Nat} {ns : List Nd} {M : List Nat} (h : Memo d S w mb ns) (k : Kept M w w') (hn : mb ∉ M) (hS : ∀ y ∈ M, ¬ S y) : Memo d S w' mb ns := by
  obtain ⟨es, n, h1, h2⟩ := h
  exact ⟨es, n, h1.kept k hn, fun e he q hq => (DL.good d).kept (h2 e he q hq) k hS⟩
theorem Memo.mono {d : Nat} {S S' : Nat → Prop} {w : World} {mb : Nat} {ns : List Nd} (h : Memo d S w mb ns) (hS : ∀ b, b < w.heap.size → S b → S' b) : Memo d S' w mb ns := by
  obtain ⟨es, n, h1, h2⟩ := h
  exact ⟨es, n, h1, fun e he q hq => (DL.good d).mono (h2 e he q hq) hS⟩
theorem Memo.new {d c : Nat} {S : Nat → Prop} {w w' : World} {mb : Nat} {ns : List Nd} {es : List MapEntry} {n : Int} {v : Value} (h2 : ∀ e ∈ es, ∀ k : Int, e.key = .int .i64 k → DL d S w e.val (allD ns k)) (hv : DL d S w v (allD ns n)) (k : Kept [mb] w w') (hS : ¬ S mb)
    (h1 : IsMap IntKey w' mb (es ++ [({ key := .int .i64 n, val := v, born := c } : MapEntry)]) (c + 1)) : Memo d S w' mb ns := by
  refine ⟨_, _, h1, fun e he q hq => ?_⟩
  have key : ∀ {v : Value} {l : List Dp}, DL d S w v l → DL d S w' v l := fun h => (DL.good d).kept h k (by simpa using hS)
  rcases List.mem_append.1 he with he | he
  · exact key (h2 e he q hq)
  · rw [List.mem_singleton] at he
    subst he
    simp only [Value.int.injEq, true_and] at hq
    subst hq
    exact key hv
theorem Memo.old {d c i : Nat} {S : Nat → Prop} {w w' : World} {mb : Nat} {ns : List Nd} {es : List MapEntry} {n : Int} {v : Value} {e : MapEntry} (h2 : ∀ e ∈ es, ∀ k : Int, e.key = .int .i64 k → DL d S w e.val (allD ns k)) (hv : DL d S w v (allD ns n)) (k : Kept [mb] w w') (hS : ¬ S mb)
    (he : e.key = .int .i64 n) (h1 : IsMap IntKey w' mb (es.set i { e with val := v }) c) : Memo d S w' mb ns := by
  refine ⟨_, _, h1, fun e' he' q hq => ?_⟩
  have key : ∀ {v : Value} {l : List Dp}, DL d S w v l → DL d S w' v l := fun h => (DL.good d).kept h k (by simpa using hS)
  rcases List.mem_or_eq_of_mem_set he' with he' | rfl
  · exact key (h2 e' he' q hq)
  · simp only at hq
    rw [he] at hq
    simp only [Value.int.injEq, true_and] at hq
    subst hq
    exact key hv
theorem zero_deps (w : World) : (zeroValue 33).run Tryz.prog w = .ok (.slice none 0 0) w := by
  have h : (Tryz.prog.info? 33).map (fun i => i.zero) = some (some (.slice none 0 0)) := by kernel_rfl
  cases hi : Tryz.prog.info? 33 with
  | none => simp [hi] at h
  | some i => simp [hi] at h; simp [zeroValue, typeInfo, hi, h]
theorem info_node2 : (Tryz.prog.info? 63).map (fun i => (i.zero, i.size)) = some (some (.agg #[.slice none 0 0, .slice none 0 0]), 2) := by kernel_rfl
theorem info_deps : (Tryz.prog.info? 33).map (fun i => (i.zero, i.size, i.bytes)) = some (some (.slice none 0 0), 1, 24) := by kernel_rfl
/-- A slice of one list. -/
theorem lists_one {d g base : Nat} {S : Nat → Prop} {w : World} {e : Value} {l : List Dp} (hb : Blk w g [e] 33) (he : e.oneCell' = true) (hg : base ≤ g) (h : DL d (fun y => S y ∧ y ≠ g) w e l) :
    Gr (fun S w e (l : List Dp) => DL d S w e l) (fun _ e => [e]) 1 33 S base w (.slice (some ⟨g, 0, none⟩) 1 1) [l] := by
  refine ⟨[e], rfl, ⟨⟨rfl, .inr ⟨g, 1, _, rfl, hg, hb, by simp, by simp [maxLen], by simp, by simp⟩⟩, by simp [he]⟩, fun k x e' hx he' => ?_⟩
  match k, hx, he' with
  | 0, hx, he' =>
    simp only [List.getElem?_cons_zero, Option.some.injEq] at hx he'
    subst hx he'
    exact (DL.good d).mono h (fun b _ hq => ⟨hq.1, fun e => hq.2 (by simpa [Value.ownBlock] using e.symm)⟩)
  | k + 1, hx, _ => simp at hx
end Go.Proofs.YtkldomkooleecaaGreatDoor
