/- All dependencies of a node: plain facts, and what the walk of collect carries. -/
import Derived.Test.YtkldomkooleecaaGreatDoorMrg
import Derived.Test.YtkldomkooleecaaGreatDoorMAdd

namespace Go.Proofs.YtkldomkooleecaaGreatDoor
open Go.RowKit Go.Maps Go.MapKept

/-- Every node uses smaller ones, and they are there. -/
def Closed (ns : List Nd) : Prop := ∀ x ∈ ns, ∀ u ∈ x.uses, u < x.num ∧ nodeOf ns u ≠ none
def allF (ns : List Nd) : Nat → Int → List Dp
  | 0, _ => []
  | f + 1, n => mergeD (depsOf ns n ++ ((usesOf ns n).map (allF ns f)).flatten)
/-- The dependencies of a node, direct and indirect. -/
def allD (ns : List Nd) (n : Int) : List Dp := allF ns (n.toNat + 1) n
def allDeps (ns : List Nd) (n : Int) : List Dp := match nodeOf ns n with | some _ => allD ns n | none => []
theorem allF_fuel {ns : List Nd} {last : Nat} (hc : Closed ns) (hr : ∀ x ∈ ns, 1 ≤ x.num ∧ x.num ≤ last) : ∀ (f f' : Nat) (n : Int), n.toNat < f → n.toNat < f' → allF ns f n = allF ns f' n
  | 0, _, _, h, _ => by omega
  | _ + 1, 0, _, _, h => by omega
  | f + 1, f' + 1, n, h, h' => by
    rw [allF, allF]
    congr 3
    apply List.map_congr_left
    intro u hu
    unfold usesOf at hu
    cases hx : nodeOf ns n with
    | none => rw [hx] at hu; simp at hu
    | some x =>
      rw [hx] at hu
      simp only at hu
      obtain ⟨hm, hn⟩ := nodeOf_some hx
      obtain ⟨h1, h2⟩ := hc x hm u hu
      have h3 : 1 ≤ u := by
        cases hy : nodeOf ns u with
        | none => exact absurd hy h2
        | some y =>
          obtain ⟨q1, q2⟩ := nodeOf_some hy
          have := (hr y q1).1
          omega
      exact allF_fuel hc hr f f' u (by omega) (by omega)
theorem allD_eq {ns : List Nd} {last : Nat} (hc : Closed ns) (hr : ∀ x ∈ ns, 1 ≤ x.num ∧ x.num ≤ last) {n : Int} {x : Nd} (hx : nodeOf ns n = some x) : allD ns n = mergeD (x.deps ++ (x.uses.map (allD ns)).flatten) := by
  unfold allD
  rw [allF]
  unfold depsOf usesOf
  rw [hx]
  simp only
  congr 3
  apply List.map_congr_left
  intro u hu
  obtain ⟨hm, hn⟩ := nodeOf_some hx
  obtain ⟨h1, h2⟩ := hc x hm u hu
  have h3 : 1 ≤ u := by
    cases hy : nodeOf ns u with
    | none => exact absurd hy h2
    | some y =>
      obtain ⟨q1, q2⟩ := nodeOf_some hy
      have := (hr y q1).1
      omega
  exact allF_fuel hc hr _ _ u (by omega) (by omega)
theorem mergeD_sub (l : List Dp) : ∀ y ∈ mergeD l, y ∈ l := fun y hy => uqD_sub l y ((List.mergeSort_perm _ _).mem_iff.1 hy)
theorem allF_P {P : Dp → Prop} {ns : List Nd} (hP : ∀ x ∈ ns, ∀ y ∈ x.deps, P y) : ∀ (f : Nat) (n : Int), ∀ y ∈ allF ns f n, P y
  | 0, _, y, h => by simp [allF] at h
  | f + 1, n, y, h => by
    rw [allF] at h
    have := mergeD_sub _ y h
    rcases List.mem_append.1 this with h | h
    · unfold depsOf at h
      cases hx : nodeOf ns n with
      | none => rw [hx] at h; simp at h
      | some x => rw [hx] at h; exact hP x (nodeOf_some hx).1 y h
    · obtain ⟨l, hl, hy⟩ := List.mem_flatten.1 h
      obtain ⟨u, _, rfl⟩ := List.mem_map.1 hl
      exact allF_P hP f u y hy
/-- Few different queries. -/
def Cov (Q : List Dp) (y : Dp) : Prop := ∃ q ∈ Q, q.fn = y.fn ∧ q.ty = y.ty
theorem dist_len {l Q : List Dp} (h : DistQ l) (hc : ∀ y ∈ l, Cov Q y) : l.length ≤ Q.length := by
  have hn : (l.map fun y => (y.fn, y.ty)).Nodup := by
    unfold List.Nodup
    rw [List.pairwise_map]
    exact h.imp (fun h e => h (by simp only [Prod.mk.injEq] at e; exact e))
  have := nodup_le (m := Q.map fun y => (y.fn, y.ty)) hn (fun x hx => by
    obtain ⟨y, hy, rfl⟩ := List.mem_map.1 hx
    obtain ⟨q, hq, e1, e2⟩ := hc y hy
    exact List.mem_map.2 ⟨q, hq, by rw [e1, e2]⟩)
  simpa using this
theorem uq_few {l Q : List Dp} (hc : ∀ y ∈ l, Cov Q y) : (uqD l).length ≤ Q.length := dist_len (uqD_dist l) (fun y hy => hc y (uqD_sub l y hy))
theorem mergeD_len (l : List Dp) : (mergeD l).length = (uqD l).length := by simp [mergeD]

/-- The graph while collect runs: the memo lies at mb. -/
structure CAt (d : Nat) (w : World) (b nb eb base mb last : Nat) (ns : List Nd) : Prop where
  lt1 : b < base
  lt2 : nb < base
  le : base ≤ mb
  blk : Blk w b [.int .i64 last, .map (some nb), .map (some eb)] 67
  nodes : ∃ n, IsMap IntKey w nb (ns.map Nd.ent) n
  data : ∀ x ∈ ns, DL d (fun y => base ≤ y ∧ y ≠ mb) w x.dv x.deps ∧ Reads (fun y => base ≤ y ∧ y ≠ mb) w x.uv 1 (irows x.uses) ∧ x.deps.length ≤ 1000 ∧ x.uses.length ≤ 1000
theorem CAt.kept {d : Nat} {w w' : World} {b nb eb base mb last : Nat} {ns : List Nd} {M : List Nat} (h : CAt d w b nb eb base mb last ns) (k : Kept M w w') (hM : ∀ y ∈ M, y = mb) : CAt d w' b nb eb base mb last ns := by
  have q1 := h.lt1
  have q2 := h.lt2
  have q3 := h.le
  refine ⟨h.lt1, h.lt2, h.le, h.blk.kept k (fun hy => by have := hM b hy; omega), ?_, fun x hx => ?_⟩
  · obtain ⟨n, hn⟩ := h.nodes
    exact ⟨n, hn.kept k (fun hy => by have := hM nb hy; omega)⟩
  · obtain ⟨h1, h2, h3⟩ := h.data x hx
    exact ⟨(DL.good d).kept h1 k (fun y hy hq => hq.2 (hM y hy)), h2.kept k (fun y hy hq => hq.2 (hM y hy)), h3⟩
theorem GAt.cat {d : Nat} {w w' : World} {b nb eb base last : Nat} {ns : List Nd} (h : GAt d w b nb eb base last ns) (k : Kept [] w w') {mb : Nat} (hm : mb = w.heap.size) : CAt d w' b nb eb base mb last ns := by
  subst hm
  have hc : CAt d w b nb eb base w.heap.size last ns := ⟨h.lt1, h.lt2, h.lt4, h.blk, h.nodes, fun x hx => by
    obtain ⟨h1, h2, h3⟩ := h.data x hx
    exact ⟨(DL.good d).mono h1 (fun y hy hq => ⟨hq, by omega⟩), h2.mono (fun y hy hq => ⟨hq, by omega⟩), h3⟩⟩
  exact hc.kept k (by simp)
theorem CAt.look {d : Nat} {w : World} {b nb eb base mb last : Nat} {ns : List Nd} (h : CAt d w b nb eb base mb last ns) {n : Int} {x : Nd} (hx : nodeOf ns n = some x) :
    (Instr.lookup 64 (.map (some nb)) (.int .i64 n) false).run Tryz.prog w = .ok (.agg #[x.dv, x.uv]) w := by
  obtain ⟨c, hm⟩ := h.nodes
  obtain ⟨h1, h2⟩ := nodeOf_some hx
  have := hm.lookup_some key_int Tryz.underlying64 (e := x.ent) (List.mem_map.2 ⟨x, h1, rfl⟩) false
  simpa [Nd.ent, h2] using this
/-- The memo: what was reckoned; its lists read by blocks of S. -/
def Memo (d : Nat) (S : Nat → Prop) (w : World) (mb : Nat) (ns : List Nd) : Prop := ∃ es n, IsMap IntKey w mb es n ∧ ∀ e ∈ es, ∀ k : Int, e.key = .int .i64 k → DL d S w e.val (allD ns k)
theorem Memo.kept {d : Nat} {S : Nat → Prop} {w w' : World} {mb : Nat} {ns : List Nd} {M : List Nat} (h : Memo d S w mb ns) (k : Kept M w w') (hn : mb ∉ M) (hS : ∀ y ∈ M, ¬ S y) : Memo d S w' mb ns := by
  obtain ⟨es, n, h1, h2⟩ := h
  exact ⟨es, n, h1.kept k hn, fun e he q hq => (DL.good d).kept (h2 e he q hq) k hS⟩
theorem Memo.mono {d : Nat} {S S' : Nat → Prop} {w : World} {mb : Nat} {ns : List Nd} (h : Memo d S w mb ns) (hS : ∀ b, b < w.heap.size → S b → S' b) : Memo d S' w mb ns := by
  obtain ⟨es, n, h1, h2⟩ := h
  exact ⟨es, n, h1, fun e he q hq => (DL.good d).mono (h2 e he q hq) hS⟩
theorem Memo.new {d c : Nat} {S : Nat → Prop} {w w' : World} {mb : Nat} {ns : List Nd} {es : List MapEntry} {n : Int} {v : Value} (h2 : ∀ e ∈ es, ∀ k : Int, e.key = .int .i64 k → DL d S w e.val (allD ns k)) (hv : DL d S w v (allD ns n)) (k : Kept [mb] w w') (hS : ¬ S mb)
    (h1 : IsMap IntKey w' mb (es ++ [({ key := .int .i64 n, val := v, born := c } : MapEntry)]) (c + 1)) : Memo d S w' mb ns := by
  refine ⟨_, _, h1, fun e he q hq => ?_⟩
  have key : ∀ {v : Value} {l : List Dp}, DL d S w v l → DL d S w' v l := fun h => (DL.good d).kept h k (by simpa using hS)
  rcases List.mem_append.1 he with he | he
  · exact key (h2 e he q hq)
  · rw [List.mem_singleton] at he
    subst he
    simp only [Value.int.injEq, true_and] at hq
    subst hq
    exact key hv
theorem Memo.old {d c i : Nat} {S : Nat → Prop} {w w' : World} {mb : Nat} {ns : List Nd} {es : List MapEntry} {n : Int} {v : Value} {e : MapEntry} (h2 : ∀ e ∈ es, ∀ k : Int, e.key = .int .i64 k → DL d S w e.val (allD ns k)) (hv : DL d S w v (allD ns n)) (k : Kept [mb] w w') (hS : ¬ S mb)
    (he : e.key = .int .i64 n) (h1 : IsMap IntKey w' mb (es.set i { e with val := v }) c) : Memo d S w' mb ns := by
  refine ⟨_, _, h1, fun e' he' q hq => ?_⟩
  have key : ∀ {v : Value} {l : List Dp}, DL d S w v l → DL d S w' v l := fun h => (DL.good d).kept h k (by simpa using hS)
  rcases List.mem_or_eq_of_mem_set he' with he' | rfl
  · exact key (h2 e' he' q hq)
  · simp only at hq
    rw [he] at hq
    simp only [Value.int.injEq, true_and] at hq
    subst hq
    exact key hv
theorem zero_deps (w : World) : (zeroValue 33).run Tryz.prog w = .ok (.slice none 0 0) w := by
  have h : (Tryz.prog.info? 33).map (fun i => i.zero) = some (some (.slice none 0 0)) := by kernel_rfl
  cases hi : Tryz.prog.info? 33 with
  | none => simp [hi] at h
  | some i => simp [hi] at h; simp [zeroValue, typeInfo, hi, h]
theorem info_node2 : (Tryz.prog.info? 63).map (fun i => (i.zero, i.size)) = some (some (.agg #[.slice none 0 0, .slice none 0 0]), 2) := by kernel_rfl
theorem info_deps : (Tryz.prog.info? 33).map (fun i => (i.zero, i.size, i.bytes)) = some (some (.slice none 0 0), 1, 24) := by kernel_rfl
/-- A slice of one list. -/
theorem lists_one {d g base : Nat} {S : Nat → Prop} {w : World} {e : Value} {l : List Dp} (hb : Blk w g [e] 33) (he : e.oneCell' = true) (hg : base ≤ g) (h : DL d (fun y => S y ∧ y ≠ g) w e l) :
    Gr (fun S w e (l : List Dp) => DL d S w e l) (fun _ e => [e]) 1 33 S base w (.slice (some ⟨g, 0, none⟩) 1 1) [l] := by
  refine ⟨[e], rfl, ⟨⟨rfl, .inr ⟨g, 1, _, rfl, hg, hb, by simp, by simp [maxLen], by simp, by simp⟩⟩, by simp [he]⟩, fun k x e' hx he' => ?_⟩
  match k, hx, he' with
  | 0, hx, he' =>
    simp only [List.getElem?_cons_zero, Option.some.injEq] at hx he'
    subst hx he'
    exact (DL.good d).mono h (fun b _ hq => ⟨hq.1, fun e => hq.2 (by simpa [Value.ownBlock] using e.symm)⟩)
  | k + 1, hx, _ => simp at hx
end Go.Proofs.YtkldomkooleecaaGreatDoor

/- Walks: all dependencies of a node (collect, AllDeps). -/
namespace Go.Proofs.YtkldomkooleecaaGreatDoor
open Go.RowKit Go.Maps Go.MapKept

/-- What is known of every dependency of the graph. -/
def Fit (Q : List Dp) (y : Dp) : Prop := tyOk y.ty ∧ tyW y.ty ≤ 140737488355328 ∧ Cov Q y

/-- What a call for one node does. -/
def ColCall (d tb b nb eb base mb last : Nat) (ns : List Nd) (n : Int) (w : World) : Prop :=
  ∀ S0 : Nat → Prop, (∀ y, S0 y → base ≤ y ∧ y ≠ mb) → CAt d w b nb eb base mb last ns → Memo d S0 w mb ns → Tabs tb w → mb < w.heap.size →
    Calls Tryz.prog 39 #[.pointer (some ⟨b, 0, none⟩), .int .i64 n, .map (some mb)] w fun e w' => ∃ v', e = .returned v' ∧ DL d (fun y => S0 y ∨ w.heap.size ≤ y) w' v' (allD ns n) ∧ Memo d (fun y => S0 y ∨ w.heap.size ≤ y) w' mb ns ∧ Kept [mb] w w'

set_option maxRecDepth 100000 in
set_option maxHeartbeats 6400000 in
theorem collectAt (d tb b nb eb base mb last : Nat) (ns : List Nd) (Q : List Dp) (hQ : Q.length < 60) (hFit : ∀ x ∈ ns, ∀ y ∈ x.deps, Fit Q y) (hcl : Closed ns) (hrg : ∀ x ∈ ns, 1 ≤ x.num ∧ x.num ≤ last) (htb : tb ≤ base) (f : Nat)
    (IH : ∀ (u : Int) (W : World), u.toNat < f → nodeOf ns u ≠ none → ColCall d tb b nb eb base mb last ns u W)
    (n : Int) (w : World) (hf : n.toNat < f + 1) (hn : nodeOf ns n ≠ none) : ColCall d tb b nb eb base mb last ns n w := by
  intro S0 hS0 hC hM hT hs
  obtain ⟨x, hx⟩ : ∃ x, nodeOf ns n = some x := by
    cases h : nodeOf ns n with
    | none => exact absurd h hn
    | some x => exact ⟨x, rfl⟩
  have HX := Lib.hid hx
  have HC := Lib.hid hC
  have HT := Lib.hid hT
  have HIH := Lib.hid IH
  have HFIT := Lib.hid hFit
  have HCL := Lib.hid hcl
  have HRG := Lib.hid hrg
  have HS0 := Lib.hid hS0
  have HMM := Lib.hid (hM.mono (S' := fun y => S0 y ∧ y < w.heap.size) (fun b hb h => ⟨h, hb⟩))
  obtain ⟨es, c, m1, m2⟩ := hM
  have e1 := hC.blk.cell 1 _ rfl
  have hbm := hC.lt1
  have hle := hC.le
  have HN := Lib.hid hn
  clear IH hFit hcl hrg hC hT hn hS0
  by_cases hin : ∃ e ∈ es, e.key = .int .i64 n
  · obtain ⟨e, he, hek⟩ := hin
    have hlk := m1.lookup_some key_int Tryz.underlying83 he true
    have hdl := m2 e he n hek
    obtain ⟨va, vc, hev, _⟩ := hdl.form
    rw [hek, hev] at hlk
    rw [hev] at hdl
    have HDL := Lib.hid hdl
    simp only [if_true] at hlk
    clear m1 m2 hdl hev hek he hx
    go_enter Tryz.func39, Tryz.ntmps39
    go_wp2
    go_ret
    exact ⟨_, rfl, (DL.good d).mono HDL.out (fun _ _ h => .inl h), HMM.out.mono (fun _ _ h => .inl h.1), Kept.refl _ _⟩
  · have hno : ∀ e ∈ es, e.key ≠ .int .i64 n := fun e he hk => hin ⟨e, he, hk⟩
    have hlk := m1.lookup_none key_int Tryz.underlying83 (zero_deps w) ⟨_, rfl⟩ hno true
    simp only [if_true] at hlk
    have hlk2 := HC.out.look hx
    obtain ⟨hd, hu, hl1, hl2⟩ := HC.out.data x (nodeOf_some hx).1
    obtain ⟨a1, c1, hdv, _⟩ := hd.form
    obtain ⟨a2, c2, huv, q1, q2, q3⟩ := hu.ints
    rw [hdv, huv] at hlk2
    rw [hdv] at hd
    have HD := Lib.hid hd
    have Q3 := Lib.hid q3
    clear m1 m2 hno hin hd hu hdv huv q3 hx
    go_enter Tryz.func39, Tryz.ntmps39
    go_wp2_with (refine wpList_allocStore (.tmp 27) 63 rfl rfl rfl rfl rfl rfl _ [.slice a1 x.deps.length c1, .slice a2 x.uses.length c2] info_node2 rfl (fun _ => rfl) (fun _ => rfl) (by simp [Value.oneCell']) ?_)
    obtain ⟨w2, hw2⟩ : ∃ w2 : World, w2 = (w.alloc (.cells #[.slice a1 x.deps.length c1, .slice a2 x.uses.length c2] 63)).alloc (.cells #[.slice a1 x.deps.length c1] 33) := ⟨_, rfl⟩
    have hk2 : Kept [] w w2 := by rw [hw2]; exact ((Kept.refl [] w).alloc _).alloc _
    have hbl : Blk w2 (w.heap.size + 1) [.slice a1 x.deps.length c1] 33 := by rw [hw2]; exact halloc_new _ _ _ (by simp)
    have hsz2 : w2.heap.size = w.heap.size + 2 := by rw [hw2]; simp
    obtain ⟨G, hG⟩ : ∃ G, G = w.heap.size + 1 := ⟨_, rfl⟩
    have hgr : Gr (fun S w e (l : List Dp) => DL d S w e l) (fun _ e => [e]) 1 33 (fun y => base ≤ y ∧ y ≠ mb) w.heap.size w2 (.slice (some ⟨G, 0, none⟩) 1 1) (x.deps :: (x.uses.take 0).map (allD ns)) := by
      rw [hG]
      exact lists_one hbl rfl (by omega) ((DL.good d).kept ((DL.good d).mono HD.out (fun y hy hq => ⟨hq, by omega⟩)) hk2 (by simp))
    have hmm2 : Memo d (fun y => (S0 y ∧ y < w.heap.size) ∨ (w.heap.size ≤ y ∧ (Value.slice (some ⟨G, 0, none⟩) 1 1).ownBlock ≠ some y)) w2 mb ns := (HMM.out.kept hk2 (by simp) (by simp)).mono (fun _ _ h => .inl h)
    rw [← hw2, ← hG]
    clear hw2 hbl hG hsz2
    have HGR := Lib.hid hgr
    have HM2 := Lib.hid hmm2
    have HK2 := Lib.hid (hk2.nil (M := [mb]))
    clear hgr hk2 hlk hlk2 hmm2 HMM
    obtain ⟨i0, hi, hz0, hz1, hz2⟩ := info_parts info_deps
    have hmb : ∀ y ∈ ([mb] : List Nat), y = mb := by simp
    go_loopw [10, 34] (fun v q wr => ∃ k : Nat, k ≤ x.uses.length ∧ q = .int .i64 k ∧ Kept [mb] w wr ∧ Hid (Memo d (fun y => (S0 y ∧ y < w.heap.size) ∨ (w.heap.size ≤ y ∧ v.ownBlock ≠ some y)) wr mb ns) ∧ Hid (Gr (fun S w e (l : List Dp) => DL d S w e l) (fun _ e => [e]) 1 33 (fun y => base ≤ y ∧ y ≠ mb) w.heap.size wr v (x.deps :: (x.uses.take k).map (allD ns)))) (fun _ q _ => x.uses.length - (intOf q).toNat)
    case atStart => exact ⟨0, Nat.zero_le _, rfl, HK2.out, HM2, HGR⟩
    case round =>
      obtain ⟨k, hk, rfl, hkr, hmr, hgr⟩ := hrel
      obtain ⟨wo, hwo⟩ : ∃ wo : World, wo = wr := ⟨_, rfl⟩
      subst hwo
      by_cases hlt : k < x.uses.length
      · have hne : x.uses ≠ [] := by intro h; rw [h] at hlt; simp at hlt
        obtain ⟨b3, o3, rfl, hSb, hb3, hc3⟩ := Q3.out.resolve_left hne
        obtain ⟨u, hu⟩ := getp x.uses k hlt
        have cx := hkr.cell' (hc3 k u hu) (by simpa using hSb.2)
        obtain ⟨hxm, hxn⟩ := nodeOf_some HX.out
        obtain ⟨hu1, hu2⟩ := HCL.out x hxm u (List.mem_of_getElem? hu)
        have hxr := (HRG.out x hxm).1
        have hu3 : 1 ≤ u := by
          cases hy : nodeOf ns u with
          | none => exact absurd hy hu2
          | some y =>
            obtain ⟨r1, r2⟩ := nodeOf_some hy
            have := (HRG.out y r1).1
            omega
        have hih := HIH.out u wo (by omega) hu2 (fun y => (S0 y ∧ y < w.heap.size) ∨ (w.heap.size ≤ y ∧ u10.ownBlock ≠ some y)) (fun y hy => by
          rcases hy with hy | hy
          · exact HS0.out y hy.1
          · exact ⟨by omega, by omega⟩) (HC.out.kept hkr hmb) hmr.out (HT.out.kept hkr (by simp; omega)) (Nat.lt_of_lt_of_le hs hkr.size)
        have HI1 := Lib.hid hih
        have HTK := Lib.hid (show (x.uses.take (k + 1)).map (allD ns) = (x.uses.take k).map (allD ns) ++ [allD ns u] by rw [List.take_add_one, hu]; simp)
        obtain ⟨es1, n1, n2, n3⟩ := hgr.out
        have hlen : (List.zipWith (fun _ e => [e]) (x.deps :: (x.uses.take k).map (allD ns)) es1).length = k + 1 := by rw [zip_len n1]; simp; omega
        have hlt1 : ∀ y, u10.ownBlock = some y → w.heap.size ≤ y ∧ y < wo.heap.size := n2.lt
        have HLT1 := Lib.hid hlt1
        have N1 := Lib.hid n1
        have N2 := Lib.hid n2
        have N3 := Lib.hid n3
        have HLN := Lib.hid hlen
        have hlB : k < 1000 := by omega
        have hsB : w.heap.size ≤ wo.heap.size := hkr.size
        clear hc3 hu hne Q3 hSb hb3 hxm hxn hu1 hu2 hxr hu3 hih n1 n2 n3 hlen hlt1 hgr
        go_wp2_with (first
          | (go_at_call 39; refine Calls.mono HI1.out ?_; rintro e w3 ⟨v3, rfl, hd3, hm3, hk3⟩; obtain ⟨va, vc, rfl, _⟩ := hd3.form; have HD3 := Lib.hid hd3; have HM3 := Lib.hid hm3; have HN3 := Lib.hid (N2.out.kept hk3 (by intro y hy hm; have := (HLT1.out y hy).1; simp at hm; omega)); have HK3 := Lib.hid hk3; have hs3 := hk3.size; clear hd3 hm3 hk3)
          | (refine wpList_append1 (.tmp 38) (.tmp 42) 84 33 rfl rfl rfl rfl rfl i0 (.slice none 0 0) 1 24 Tryz.underlying84 hi hz0 hz1 hz2 rfl (by decide) (by decide) w.heap.size u10 _ (fun _ => rfl) (fun _ => rfl) [.slice va (allD ns u).length vc] rfl rfl (by simp [Value.oneCell']) HN3.out (by rw [HLN.out]; omega) (by rw [HLN.out]; omega) (by omega) ?_; intro v5 w5 ho5 hk5 hl5; have HO5 := Lib.hid ho5; have HK5 := Lib.hid hk5; have HL5 := Lib.hid hl5; clear ho5 hk5 hl5))
        have hk10 := HK5.out u10.ownBlock.toList (by intro y hy; simp [hy])
        have hob : ∀ y ∈ u10.ownBlock.toList, w.heap.size ≤ y ∧ y < wo.heap.size := fun y hy => HLT1.out y (by simpa using hy)
        have hk11 : Kept [mb] w w5 := (hkr.trans HK3.out).trans' hk10 (fun y hy => .inr (hob y hy).1)
        have hm3 : Memo d (fun y => ((S0 y ∧ y < w.heap.size) ∨ (w.heap.size ≤ y ∧ u10.ownBlock ≠ some y)) ∧ v5.ownBlock ≠ some y) w3 mb ns := HM3.out.mono (fun y hy h => by
          have h1 : (S0 y ∧ y < w.heap.size) ∨ (w.heap.size ≤ y ∧ u10.ownBlock ≠ some y) := by
            rcases h with h | h
            · exact h
            · exact .inr ⟨by omega, fun e => by have := (HLT1.out y e).2; omega⟩
          refine ⟨h1, fun e => ?_⟩
          rcases HL5.out with hl | ⟨g, hg, hge⟩
          · rw [hl] at e
            rcases h1 with h1 | h1
            · have := (HLT1.out y e).1; omega
            · exact h1.2 e
          · rw [hg] at e; cases e; omega)
        have hm5 : Memo d (fun y => (S0 y ∧ y < w.heap.size) ∨ (w.heap.size ≤ y ∧ v5.ownBlock ≠ some y)) w5 mb ns := (hm3.kept hk10 (fun hy => by have := (hob mb hy).1; omega) (fun y hy h => by
          have := (hob y hy).1
          rcases h.1 with h | h
          · omega
          · exact h.2 (by simpa using hy))).mono (fun y _ h => h.1.imp id (fun q => ⟨q.1, h.2⟩))
        have hd5 : DL d (fun y => (base ≤ y ∧ y ≠ mb) ∧ u10.ownBlock ≠ some y) w3 (.slice va (allD ns u).length vc) (allD ns u) := (DL.good d).mono HD3.out (fun y _ h => by
          rcases h with (h | h) | h
          · exact ⟨HS0.out y h.1, fun e => by have := (HLT1.out y e).1; omega⟩
          · exact ⟨⟨by omega, by omega⟩, h.2⟩
          · exact ⟨⟨by omega, by omega⟩, fun e => by have := (HLT1.out y e).2; omega⟩)
        have hg5 : Gr (fun S w e (l : List Dp) => DL d S w e l) (fun _ e => [e]) 1 33 (fun y => base ≤ y ∧ y ≠ mb) w.heap.size w5 v5 (x.deps :: (x.uses.take (k + 1)).map (allD ns)) := by
          rw [HTK.out, ← List.cons_append]
          exact Gr.snoc (DL.good d) N1.out (fun i y e hy he => (DL.good d).kept (N3.out i y e hy he) HK3.out (fun z hz hq => hq.1.2 (hmb z hz))) hd5 HO5.out HK5.out HL5.out
        have HG5 := Lib.hid hg5
        have HM5 := Lib.hid hm5
        clear hk10 hm3 hm5 hd5 hg5
        go_roundw
        case rel => exact ⟨k + 1, by omega, by go_num, hk11, HM5, HG5⟩
        case measure => simp [intOf]; omega
      · have hmr1 := hmr.out
        have hgr1 := hgr.out
        rw [show k = x.uses.length by omega, List.take_length] at hgr1
        obtain ⟨va, N, vc, rfl⟩ : ∃ a n c, u10 = .slice a n c := by obtain ⟨a, c, h, _⟩ := hgr1.shape; exact ⟨a, _, c, h⟩
        have hrd : Rd (fun S w e (l : List Dp) => DL d S w e l) (fun _ e => [e]) 1 (fun y => base ≤ y) wo (.slice va N vc) (x.deps :: x.uses.map (allD ns)) := Gr.rd (DL.good d) (Gr.mono (DL.good d) hgr1 (base' := w.heap.size) (S' := fun y => base ≤ y) (Nat.le_refl _) (fun _ _ h => h.1)) (fun y hy => by omega)
        have hall : ∀ l ∈ x.deps :: x.uses.map (allD ns), ∀ y ∈ l, Fit Q y := by
          intro l hl y hy
          rcases List.mem_cons.1 hl with rfl | hl
          · exact HFIT.out x (nodeOf_some HX.out).1 y hy
          · obtain ⟨u, _, rfl⟩ := List.mem_map.1 hl
            exact allF_P HFIT.out _ _ y hy
        have hlens : ∀ l ∈ x.deps :: x.uses.map (allD ns), l.length ≤ 100000 := by
          intro l hl
          rcases List.mem_cons.1 hl with rfl | hl
          · omega
          · obtain ⟨u, _, rfl⟩ := List.mem_map.1 hl
            unfold allD
            rw [allF, mergeD_len]
            refine Nat.le_trans (uq_few (Q := Q) (fun y hy => ?_)) (by omega)
            rcases List.mem_append.1 hy with hy | hy
            · unfold depsOf at hy
              cases hx : nodeOf ns u with
              | none => rw [hx] at hy; simp at hy
              | some z => rw [hx] at hy; exact (HFIT.out z (nodeOf_some hx).1 y hy).2.2
            · obtain ⟨l, hl, hy⟩ := List.mem_flatten.1 hy
              obtain ⟨u', _, rfl⟩ := List.mem_map.1 hl
              exact (allF_P HFIT.out _ _ y hy).2.2
        have hmg := mergeDeps d tb (.slice va N vc) (x.deps :: x.uses.map (allD ns)) wo (HT.out.kept hkr (by simp; omega)) (by have := hkr.size; omega) hrd (by simp; omega) hlens (fun l hl y hy => ⟨(hall l hl y hy).1, (hall l hl y hy).2.1⟩)
          (Nat.lt_of_le_of_lt (uq_few (Q := Q) (fun y hy => by obtain ⟨l, hl, hy⟩ := List.mem_flatten.1 hy; exact (hall l hl y hy).2.2)) hQ)
        have HMG := Lib.hid hmg
        have HMR := Lib.hid hmr1
        have hso := hkr.size
        clear hmg hmr1 hgr1 hgr hmr hrd hall hlens Q3
        go_upto_region 12 with (first
          | (go_at_call 19; refine Calls.mono HMG.out ?_; rintro e w3 ⟨v3, rfl, hd3, hk3⟩; obtain ⟨vd, LN, ve, rfl⟩ : ∃ a n c, v3 = .slice a n c := (by obtain ⟨a, c, h, _⟩ := hd3.shape; exact ⟨a, _, c, h⟩); have HD3 := Lib.hid hd3; have HK3 := Lib.hid hk3; clear hd3 hk3))
        have hdl3 : DL d (fun y => S0 y ∨ w.heap.size ≤ y) w3 (.slice vd LN ve) (allD ns n) := by
          rw [allD_eq HCL.out HRG.out HX.out]
          exact (DL.good d).mono (Gr.rd (DR.good d) HD3.out (fun _ h => h)) (fun y _ hy => .inr (by omega))
        have hmm3 : Memo d (fun y => S0 y ∨ w.heap.size ≤ y) w3 mb ns := (HMR.out.mono (fun y _ h => h.imp (fun q => q.1) (fun q => q.1))).kept HK3.out (by simp) (by simp)
        have hSm : ¬ (S0 mb ∨ w.heap.size ≤ mb) := by
          rintro (h | h)
          · exact (HS0.out mb h).2 rfl
          · omega
        obtain ⟨es3, c3, t1, t2⟩ := hmm3
        have T1 := Lib.hid t1
        have T2 := Lib.hid t2
        have HDL3 := Lib.hid hdl3
        have HK4 := Lib.hid (hkr.trans HK3.out.nil)
        clear t1 t2 hdl3 HMR HMG
        by_cases hin3 : ∃ e ∈ es3, e.key = .int .i64 n
        · obtain ⟨e, he, hek⟩ := hin3
          obtain ⟨i, hi3⟩ := List.getElem?_of_mem he
          have HI3 := Lib.hid hi3
          have HEK := Lib.hid hek
          clear hi3 hek he
          go_wp2_with (refine wpList_gmap_old rfl (.tmp 48) (.tmp 49) (.tmp 50) (.inl rfl) key_int Tryz.underlying83 i e _ rfl HEK.out.symm rfl T1.out HI3.out ?_; intro w7 hm7 hk7 hz7; have HM7 := Lib.hid hm7; have HK7 := Lib.hid hk7; clear hm7 hk7 hz7)
          go_ret
          exact ⟨_, rfl, (DL.good d).kept HDL3.out HK7.out (by simpa using hSm), Memo.old T2.out HDL3.out HK7.out hSm HEK.out HM7.out, HK4.out.trans HK7.out⟩
        · have HNO : Hid (∀ e ∈ es3, e.key ≠ .int .i64 n) := fun e he hk => hin3 ⟨e, he, hk⟩
          clear hin3
          go_wp2_with (refine wpList_gmap_new rfl (.tmp 48) (.tmp 49) (.tmp 50) (.inl rfl) key_int Tryz.underlying83 (.int .i64 n) _ rfl rfl rfl T1.out ⟨_, rfl⟩ HNO.out ?_; intro w7 hm7 hk7 hz7; have HM7 := Lib.hid hm7; have HK7 := Lib.hid hk7; clear hm7 hk7 hz7)
          go_ret
          exact ⟨_, rfl, (DL.good d).kept HDL3.out HK7.out (by simpa using hSm), Memo.new T2.out HDL3.out HK7.out hSm HM7.out, HK4.out.trans HK7.out⟩

theorem collect (d tb b nb eb base mb last : Nat) (ns : List Nd) (Q : List Dp) (hQ : Q.length < 60) (hFit : ∀ x ∈ ns, ∀ y ∈ x.deps, Fit Q y) (hcl : Closed ns) (hrg : ∀ x ∈ ns, 1 ≤ x.num ∧ x.num ≤ last) (htb : tb ≤ base) :
    ∀ (f : Nat) (n : Int) (w : World), n.toNat < f → nodeOf ns n ≠ none → ColCall d tb b nb eb base mb last ns n w
  | 0, _, _, h, _ => by omega
  | f + 1, n, w, h, hn => collectAt d tb b nb eb base mb last ns Q hQ hFit hcl hrg htb f (fun u W hu hun => collect d tb b nb eb base mb last ns Q hQ hFit hcl hrg htb f u W hu hun) n w h hn

set_option maxRecDepth 100000 in
set_option maxHeartbeats 1600000 in
theorem gAllDeps (d tb b nb eb base last : Nat) (ns : List Nd) (Q : List Dp) (hQ : Q.length < 60) (hFit : ∀ x ∈ ns, ∀ y ∈ x.deps, Fit Q y) (hcl : Closed ns) (htb : tb ≤ base) (n : Int) (w : World) (hG : GAt d w b nb eb base last ns) (hT : Tabs tb w) :
    Calls Tryz.prog 18 #[.pointer (some ⟨b, 0, none⟩), .int .i64 n] w fun e w' => ∃ v', e = .returned v' ∧ DL d (w.heap.size ≤ ·) w' v' (allDeps ns n) ∧ Kept [] w w' := by
  have HG := Lib.hid hG
  have HT := Lib.hid hT
  have HH := Lib.hid (fun W (h : Kept [] w W) => gHas d b nb eb base last ns n W (hG.kept0 h))
  have HCC := Lib.hid (fun mb W (hn : nodeOf ns n ≠ none) => collect d tb b nb eb base mb last ns Q hQ hFit hcl hG.rng htb (n.toNat + 1) n W (Nat.lt_succ_self _) hn)
  have hmm := @run_makeMap Tryz.prog
  clear hG hT hFit hcl
  cases hx : nodeOf ns n with
  | none =>
    have HX := Lib.hid hx
    clear hx hmm
    go_enter Tryz.func18, Tryz.ntmps18
    go_wp2_with (go_at_call 28; refine (HH.out _ (Kept.refl _ _)).mono ?_; rintro e w1 ⟨rfl, hk1⟩; rw [HX.out]; have HK1 := Lib.hid hk1; clear hk1)
    go_ret
    exact ⟨_, rfl, by unfold allDeps; rw [HX.out]; exact DL.nil _ _ _, HK1.out⟩
  | some x =>
    have HX := Lib.hid hx
    clear hx
    go_enter Tryz.func18, Tryz.ntmps18
    go_wp2_with (first
      | (go_at_call 28; refine (HH.out _ (Kept.refl _ _)).mono ?_; rintro e w1 ⟨rfl, hk1⟩; rw [HX.out]; have HK1 := Lib.hid hk1; clear hk1)
      | (go_at_call 39; refine Calls.mono (HCC.out w1.heap.size _ (by rw [HX.out]; simp) (fun y => False) (by simp) ((HG.out.kept0 HK1.out).cat ((Kept.refl [] w1).alloc _) rfl) ⟨[], 0, .made w1, by simp⟩ ((HT.out.kept0 HK1.out).kept0 ((Kept.refl [] w1).alloc _)) (by simp)) ?_; rintro e w3 ⟨v3, rfl, hd3, hm3, hk3⟩; have HD3 := Lib.hid hd3; have HK3 := Lib.hid hk3; clear hd3 hm3 hk3))
    go_ret
    refine ⟨_, rfl, ?_, (HK1.out.alloc _).trans' HK3.out (by have := HK1.out.size; simp; omega)⟩
    unfold allDeps
    rw [HX.out]
    exact (DL.good d).mono HD3.out (fun y _ h => by have := HK1.out.size; simp at h; omega)
end Go.Proofs.YtkldomkooleecaaGreatDoor
