/- Maps: deleting at a key. -/
import Derived.Test.YtkldomkooleecaaGreatDoorByFn
namespace Go.Proofs.YtkldomkooleecaaGreatDoor
open Go.RowKit Go.Maps Go.MapKept

theorem erase_filter (f : MapEntry → Bool) : ∀ (es : List MapEntry), (es.map (·.key)).Nodup → ∀ (i : Nat) (e : MapEntry), es[i]? = some e → (∀ e' ∈ es, f e' = true ↔ e'.key ≠ e.key) → es.eraseIdx i = es.filter f
  | [], _, i, e, h, _ => by simp at h
  | a :: t, hn, 0, e, h, hf => by
    have he : a = e := by simpa using h
    subst he
    have hn' : a.key ∉ t.map (·.key) ∧ (t.map (·.key)).Nodup := List.nodup_cons.1 (by rw [← List.map_cons (f := fun e : MapEntry => e.key)]; exact hn)
    have hfa : f a = false := by
      cases hfa : f a
      · rfl
      · exact absurd rfl ((hf a (by simp)).1 hfa)
    have ht : t.filter f = t := List.filter_eq_self.2 fun x hx => (hf x (by simp [hx])).2 fun hk => hn'.1 (hk ▸ List.mem_map_of_mem hx)
    rw [List.eraseIdx_cons_zero, List.filter_cons, hfa]
    simpa using ht.symm
  | a :: t, hn, i + 1, e, h, hf => by
    have he : t[i]? = some e := by simpa using h
    have hn' : a.key ∉ t.map (·.key) ∧ (t.map (·.key)).Nodup := List.nodup_cons.1 (by rw [← List.map_cons (f := fun e : MapEntry => e.key)]; exact hn)
    have hfa : f a = true := (hf a (by simp)).2 fun hk => hn'.1 (hk ▸ List.mem_map_of_mem (List.mem_of_getElem? he))
    rw [List.eraseIdx_cons_succ, List.filter_cons, hfa, erase_filter f t hn'.2 i e he fun x hx => hf x (by simp [hx])]
    simp
section
variable {P : Program} {w : World} {ops : Array Oper} {rest : List Oper} {o : Oper} {a : Act} {Q : Exit → Act → World → Prop} {K E t : TypeId} {ok : Value → Prop} {b n : Nat} {es : List MapEntry}
theorem run_delete (law : KeyTy P K ok) (ht : P.underlying t = some (.map K E)) (h : IsMap ok w b es n) {x : Value} (hx : ok x) (f : MapEntry → Bool) (hf : ∀ e ∈ es, f e = true ↔ e.key ≠ x) (t' ty : TypeId) :
    ∃ w', (Builtin.delete_ #[t, t'] ty #[.map (some b), x]).run P w = .ok (.tuple #[]) w' ∧ IsMap ok w' b (es.filter f) n ∧ Kept [b] w w' := by
  by_cases hm : ∃ e ∈ es, e.key = x
  · obtain ⟨e, he, rfl⟩ := hm
    obtain ⟨i, hi⟩ := List.getElem?_of_mem he
    refine ⟨_, h.delete_some law ht hi t' ty, ?_, (Kept.refl _ _).setO (.inl (by simp)) _⟩
    rw [← erase_filter f es h.nodup i e hi hf]
    exact h.erase i
  · have hno : ∀ e ∈ es, e.key ≠ x := fun e he hk => hm ⟨e, he, hk⟩
    refine ⟨_, h.delete_none law ht hx hno t' ty, ?_, (Kept.refl _ _).setO (.inl (by simp)) _⟩
    rw [List.filter_eq_self.2 fun e he => (hf e he).2 (hno e he)]
    exact ⟨setO_get h.obj, h.keys, h.nodup, h.born, h.below⟩
theorem wpList_gmap_delete (hg : o.guard = none) (m k : Operand) (t' : TypeId) (hop : o.op = .call { callee := .builtin .delete, args := #[m, k], argTypes := #[t, t'] }) (law : KeyTy P K ok) (ht : P.underlying t = some (.map K E))
    (x : Value) (hm : a.eval m = .map (some b)) (hx : a.eval k = x) (h : IsMap ok w b es n) (hk : ok x) (f : MapEntry → Bool) (hf : ∀ e ∈ es, f e = true ↔ e.key ≠ x)
    (hN : ∀ w', IsMap ok w' b (es.filter f) n → Kept [b] w w' → w.heap.size ≤ w'.heap.size → wpList P ops Q rest (a.put o.dst (.tuple #[])) w') : wpList P ops Q (o :: rest) a w := by
  refine wpList_plain hg fun K' hK' => ?_
  obtain ⟨w', h1, h2, h3⟩ := run_delete law ht h hk f hf t' o.type
  unfold Oper.wp execOp
  simp only [hop, resolve, invoke, builtin, Sem.run_bind, Sem.run_pure, Result.andThen_ok, List.map_toArray, List.map_cons, List.map_nil, hm, hx, h1]
  exact hK' _ _ (hN _ h2 h3 h3.size)
end

def pairN (v : Value) : Int × Int := match v with | .agg #[.int _ x, .int _ y] => (x, y) | _ => (0, 0)
theorem pairN_pair (x y : Int) : pairN (pairK x y) = (x, y) := rfl
theorem pair_test (e : MapEntry) (hk : PairKey e.key) (x y : Int) : decide (pairN e.key ≠ (x, y)) = true ↔ e.key ≠ pairK x y := by
  obtain ⟨a, b, hab⟩ := hk
  rw [hab, pairN_pair]
  simp only [decide_eq_true_eq, ne_eq, Prod.mk.injEq]
  exact ⟨fun h hk => h (pairK_inj hk), fun h hk => h (by rw [hk.1, hk.2])⟩
theorem node_test (ns : List Nd) (n : Int) : ∀ e ∈ ns.map Nd.ent, (decide (keyN e ≠ n) = true ↔ e.key ≠ .int .i64 n) := by
  intro e he
  obtain ⟨x, _, rfl⟩ := List.mem_map.1 he
  rw [keyN_ent]
  simp [Nd.ent]
/-- A graph without a node. -/
def without (ns : List Nd) (n : Int) : List Nd := ns.filter fun x => decide (x.num ≠ n)
theorem without_ent (ns : List Nd) (n : Int) : (ns.map Nd.ent).filter (fun e => decide (keyN e ≠ n)) = (without ns n).map Nd.ent := by
  rw [List.filter_map]; rfl
theorem edge_without (ns : List Nd) (n x y : Int) : edgeB (without ns n) x y = true ↔ edgeB ns x y = true ∧ x ≠ n := by
  unfold edgeB without
  simp only [List.any_filter, List.any_eq_true, Bool.and_eq_true, beq_iff_eq, decide_eq_true_eq]
  constructor
  · rintro ⟨m, hm, h1, rfl, h2⟩
    exact ⟨⟨m, hm, rfl, h2⟩, h1⟩
  · rintro ⟨⟨m, hm, rfl, h2⟩, h1⟩
    exact ⟨m, hm, h1, rfl, h2⟩
end Go.Proofs.YtkldomkooleecaaGreatDoor

/-  Walks: removing a node. -/
namespace Go.Proofs.YtkldomkooleecaaGreatDoor
open Go.RowKit Go.Maps Go.MapKept

/-- The edges of a graph but for those from n to some. -/
def EdgeR (w : World) (eb : Nat) (ns : List Nd) (n : Int) (us : List Int) : Prop := ∃ es c, IsMap PairKey w eb es c ∧ (∀ e ∈ es, e.val = .bool true) ∧ ∀ x y : Int, (∃ e ∈ es, e.key = pairK x y) ↔ (edgeB ns x y = true ∧ ¬ (x = n ∧ y ∈ us))
theorem EdgeR.start {w : World} {eb : Nat} {ns : List Nd} (n : Int) (h : Edges w eb ns) : EdgeR w eb ns n [] := by
  obtain ⟨es, c, h1, h2, h3⟩ := h
  exact ⟨es, c, h1, h2, fun x y => by rw [h3 x y]; simp⟩
theorem EdgeR.done {w : World} {eb : Nat} {ns : List Nd} {n : Int} {x : Nd} (hp : ns.Pairwise (fun x y => x.num < y.num)) (hx : nodeOf ns n = some x) (h : EdgeR w eb ns n x.uses) : Edges w eb (without ns n) := by
  obtain ⟨es, c, h1, h2, h3⟩ := h
  refine ⟨es, c, h1, h2, fun a y => ?_⟩
  rw [h3 a y, edge_without]
  refine ⟨fun h => ⟨h.1, fun ha => h.2 ⟨ha, ?_⟩⟩, fun h => ⟨h.1, fun ha => h.2 ha.1⟩⟩
  subst ha
  have he := h.1
  unfold edgeB at he
  obtain ⟨m, hm, hmm⟩ := List.any_eq_true.1 he
  simp only [Bool.and_eq_true, beq_iff_eq] at hmm
  have hxx := nodeOf_some hx
  have := nums_unique hp hm hxx.1 (by rw [hmm.1, hxx.2])
  subst this
  exact List.contains_iff_mem.1 hmm.2
theorem EdgeR.step {w' : World} {eb c : Nat} {ns : List Nd} {n u : Int} {us : List Int} {es : List MapEntry} (h2 : ∀ e ∈ es, e.val = .bool true) (hk : ∀ e ∈ es, PairKey e.key)
    (h3 : ∀ x y : Int, (∃ e ∈ es, e.key = pairK x y) ↔ (edgeB ns x y = true ∧ ¬ (x = n ∧ y ∈ us)))
    (h1 : IsMap PairKey w' eb (es.filter fun e => decide (pairN e.key ≠ (n, u))) c) : EdgeR w' eb ns n (us ++ [u]) := by
  refine ⟨_, _, h1, fun e he => h2 e (List.mem_filter.1 he).1, fun x y => ?_⟩
  have hl : (∃ e ∈ es.filter fun e => decide (pairN e.key ≠ (n, u)), e.key = pairK x y) ↔ ((∃ e ∈ es, e.key = pairK x y) ∧ ¬ (x = n ∧ y = u)) := by
    constructor
    · rintro ⟨e, he, hq⟩
      obtain ⟨he1, he2⟩ := List.mem_filter.1 he
      refine ⟨⟨e, he1, hq⟩, fun hxy => ?_⟩
      rw [pair_test e (hk e he1)] at he2
      exact he2 (by rw [hq, hxy.1, hxy.2])
    · rintro ⟨⟨e, he, hq⟩, hxy⟩
      refine ⟨e, List.mem_filter.2 ⟨he, ?_⟩, hq⟩
      rw [pair_test e (hk e he), hq]
      exact fun hp => hxy (pairK_inj hp)
  rw [hl, h3 x y]
  simp only [List.mem_append, List.mem_singleton]
  constructor
  · rintro ⟨⟨h4, h5⟩, h6⟩
    exact ⟨h4, fun h7 => h7.2.elim (fun h8 => h5 ⟨h7.1, h8⟩) (fun h8 => h6 ⟨h7.1, h8⟩)⟩
  · rintro ⟨h4, h5⟩
    exact ⟨⟨h4, fun h7 => h5 ⟨h7.1, .inl h7.2⟩⟩, fun h7 => h5 ⟨h7.1, .inr h7.2⟩⟩
theorem EdgeR.kept {w w' : World} {eb : Nat} {ns : List Nd} {n : Int} {us : List Int} {M : List Nat} (h : EdgeR w eb ns n us) (k : Kept M w w') (hn : eb ∉ M) : EdgeR w' eb ns n us := by
  obtain ⟨es, c, h1, h2⟩ := h
  exact ⟨es, c, h1.kept k hn, h2⟩

/-- A removal's turn. -/
inductive RemTurn (d : Nat) (w : World) (b nb eb base last : Nat) (ns : List Nd) (n : Int) : Ending → World → Prop
  | no {w' : World} (hx : nodeOf ns n = none) (k : Kept [] w w') : RemTurn d w b nb eb base last ns n (.returned (.int .i64 7)) w'
  | used {w' : World} (x : Nd) (hx : nodeOf ns n = some x) (hu : usedBy ns n ≠ []) (k : Kept [] w w') : RemTurn d w b nb eb base last ns n (.returned (.int .i64 10)) w'
  | gone {w' : World} (x : Nd) (hx : nodeOf ns n = some x) (hu : usedBy ns n = []) (h : GAt d w' b nb eb base last (without ns n)) (k : Kept [nb, eb] w w') : RemTurn d w b nb eb base last ns n (.returned (.int .i64 0)) w'

theorem GAt.without {d : Nat} {w w' : World} {b nb eb base last : Nat} {ns : List Nd} (n : Int) (h : GAt d w b nb eb base last ns) (k : Kept [nb, eb] w w')
    (hm : ∃ c, IsMap IntKey w' nb ((without ns n).map Nd.ent) c) (he : Edges w' eb (Go.Proofs.YtkldomkooleecaaGreatDoor.without ns n)) : GAt d w' b nb eb base last (Go.Proofs.YtkldomkooleecaaGreatDoor.without ns n) := by
  have hs : (Go.Proofs.YtkldomkooleecaaGreatDoor.without ns n).Sublist ns := List.filter_sublist
  refine ⟨h.lt1, h.lt2, h.lt3, Nat.le_trans h.lt4 k.size, h.ne1, h.ne2, h.ne3, h.blk.kept k (by simp [h.ne1, h.ne2]), hm, he, fun x hx => ?_, h.nums.sublist hs, fun x hx => h.rng x (hs.subset hx)⟩
  obtain ⟨h1, h2, h3⟩ := h.data x (hs.subset hx)
  have q1 := h.lt2
  have q2 := h.lt3
  exact ⟨(DL.good d).kept h1 k (by simp; omega), h2.kept k (by simp; omega), h3⟩

set_option maxRecDepth 100000 in
set_option maxHeartbeats 1600000 in
theorem gRemove (d : Nat) (b nb eb base last : Nat) (ns : List Nd) (n : Int) (w : World) (h : GAt d w b nb eb base last ns) (hl : ns.length ≤ 1000000) :
    Calls Tryz.prog 27 #[.pointer (some ⟨b, 0, none⟩), .int .i64 n] w fun e w' => RemTurn d w b nb eb base last ns n e w' := by
  have HG := Lib.hid h
  have hul : (usedBy ns n).length ≤ 1000000 := by
    have := List.length_filter_le (fun m => edgeB ns m n) (ns.map Nd.num)
    unfold usedBy
    simp at this; omega
  clear h
  cases hx : nodeOf ns n with
  | none =>
    have HX := Lib.hid hx
    go_enter Tryz.func27, Tryz.ntmps27
    go_wp2_with (go_at_call 28; refine (gHas d b nb eb base last ns n _ (by exact HG.out)).mono ?_; rintro e w1 ⟨rfl, hk1⟩; rw [HX.out]; have HK1 := Lib.hid hk1; clear hk1)
    go_ret
    exact .no HX.out HK1.out
  | some x =>
    have HX := Lib.hid hx
    have HND := Lib.hid hx
    clear hx
    rcases hu : usedBy ns n with _ | ⟨u0, ut⟩
    · have HU := Lib.hid hu
      have hfd := field_snd
      go_enter Tryz.func27, Tryz.ntmps27
      go_wp2_with (first
        | (go_at_call 28; refine (gHas d b nb eb base last ns n _ (by exact HG.out)).mono ?_; rintro e w1 ⟨rfl, hk1⟩; rw [HX.out]; have HK1 := Lib.hid hk1; clear hk1)
        | (go_at_call 11; refine (gDependents d b nb eb base last ns n _ (by exact HG.out.kept0 HK1.out) hl).mono ?_; rintro e w2 ⟨v2, rfl, ho, hk2⟩; rw [HU.out] at ho; obtain ⟨a2, c2, rfl, _⟩ := ho.rows'.ints; have HK2 := Lib.hid (HK1.out.trans hk2); have hg2 := HG.out.kept0 HK2.out; have HG2 := Lib.hid hg2; have e1 := hg2.blk.cell 1 _ rfl; have hlk := hg2.look_some HX.out false; obtain ⟨hd, huu, hl1, hl2⟩ := hg2.data x (nodeOf_some HX.out).1; obtain ⟨a3, c3, hdv, _⟩ := hd.form; obtain ⟨a4, c4, huv, q1, q2, q3⟩ := huu.ints; simp only [Bool.false_eq_true, if_false, hdv, huv] at hlk; have Q3 := Lib.hid q3; clear ho hk2 hg2 hd huu hdv huv q3 HK1 HG))
      have HED := Lib.hid (EdgeR.start n HG2.out.edges)
      have hslt := HG2.out.lt4
      have hn2 := HG2.out.lt2
      have hn3 := HG2.out.lt3
      go_loopw [26] (fun i wr => ∃ k : Nat, k ≤ x.uses.length ∧ i = .int .i64 k ∧ Kept [eb] w2 wr ∧ Hid (EdgeR wr eb ns n (x.uses.take k))) (fun i _ => x.uses.length - (intOf i).toNat)
      case atStart => exact ⟨0, Nat.zero_le _, rfl, Kept.refl _ _, by rw [List.take_zero]; exact HED⟩
      case round =>
        obtain ⟨k, hk, rfl, hkr, hed⟩ := hrel
        obtain ⟨wo, hwo⟩ : ∃ wo : World, wo = wr := ⟨_, rfl⟩
        subst hwo
        by_cases hlt : k < x.uses.length
        · have hne : x.uses ≠ [] := by intro h; rw [h] at hlt; simp at hlt
          obtain ⟨b3, o3, rfl, hSb, hb3, hc3⟩ := Q3.out.resolve_left hne
          obtain ⟨u, hu⟩ := getp x.uses k hlt
          have cx := hkr.cell' (hc3 k u hu) (by simp; omega)
          have e2 := (HG2.out.blk.kept hkr (by simpa using HG2.out.ne2)).cell 2 _ rfl
          obtain ⟨es, c, m1, m2, m3⟩ := hed.out
          have M1 := Lib.hid m1
          have M2 := Lib.hid m2
          have M3 := Lib.hid m3
          have HT := Lib.hid (show x.uses.take (k + 1) = x.uses.take k ++ [u] by rw [List.take_add_one, hu]; rfl)
          clear hc3 hu hne Q3 m1 m2 m3 hed
          go_wp2_with (refine wpList_gmap_delete rfl (.tmp 33) (.tmp 36) 69 rfl key_pair Tryz.underlying65 (pairK n u) rfl rfl M1.out ⟨n, u, rfl⟩ (fun e => decide (pairN e.key ≠ (n, u))) (fun e he => pair_test e (M1.out.keys e he) n u) ?_; intro w3 hm3 hk3 hz3; have HM3 := Lib.hid hm3; have HK3 := Lib.hid hk3; clear hm3 hk3 hz3)
          go_roundw
          case rel =>
            refine ⟨k + 1, by omega, by go_num, hkr.trans HK3.out, ?_⟩
            rw [Hid, HT.out]
            exact EdgeR.step M2.out M1.out.keys M3.out HM3.out
          case measure => simp [intOf]; omega
        · have hfin := hed.out
          rw [show k = x.uses.length by omega, List.take_length] at hfin
          have HFIN := Lib.hid hfin
          obtain ⟨c, hmn⟩ := HG2.out.nodes
          have HMN := Lib.hid (hmn.kept hkr (by simpa using HG2.out.ne3))
          have e3 := (HG2.out.blk.kept hkr (by simpa using HG2.out.ne2)).cell 1 _ rfl
          clear hfin hed hmn
          go_wp2_with (refine wpList_gmap_delete rfl (.tmp 41) (.tmp 42) 3 rfl key_int Tryz.underlying64 (.int .i64 n) rfl rfl HMN.out ⟨n, rfl⟩ (fun e => decide (keyN e ≠ n)) (node_test ns n) ?_; intro w3 hm3 hk3 hz3; have HM3 := Lib.hid hm3; have HK3 := Lib.hid hk3; clear hm3 hk3 hz3)
          go_ret
          have hkk : Kept [nb, eb] w2 w3 := (hkr.mono (M' := [nb, eb]) (by simp)).trans (HK3.out.mono (by simp))
          have hm3 := HM3.out
          rw [without_ent] at hm3
          exact .gone x HX.out HU.out (HG2.out.without n hkk ⟨_, hm3⟩ ((EdgeR.done HG2.out.nums HX.out HFIN.out).kept HK3.out (by simpa using HG2.out.ne3.symm))) (HK2.out.nil.trans hkk)
    · have HU := Lib.hid hu
      go_enter Tryz.func27, Tryz.ntmps27
      go_wp2_with (first
        | (go_at_call 28; refine (gHas d b nb eb base last ns n _ (by exact HG.out)).mono ?_; rintro e w1 ⟨rfl, hk1⟩; rw [HX.out]; have HK1 := Lib.hid hk1; clear hk1)
        | (go_at_call 11; refine (gDependents d b nb eb base last ns n _ (by exact HG.out.kept0 HK1.out) hl).mono ?_; rintro e w2 ⟨v2, rfl, ho, hk2⟩; rw [HU.out] at ho; obtain ⟨a2, c2, rfl, _⟩ := ho.rows'.ints; have HK2 := Lib.hid (HK1.out.trans hk2); clear ho hk2))
      go_ret
      exact .used x HX.out (by simp [HU.out]) HK2.out
end Go.Proofs.YtkldomkooleecaaGreatDoor
