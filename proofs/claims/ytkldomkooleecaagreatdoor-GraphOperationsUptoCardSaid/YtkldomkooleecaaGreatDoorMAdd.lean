/- Walks: the distinct numbers of a list in ascending order. -/
import Derived.Test.YtkldomkooleecaaGreatDoorNodes
import Derived.Test.YtkldomkooleecaaGreatDoorByFn

namespace Go.Proofs.YtkldomkooleecaaGreatDoor
open Go.RowKit

def uq (acc : List Int) (n : Int) : List Int := if acc.getLast? = some n then acc else acc ++ [n]
def srt (l : List Int) : List Int := l.mergeSort fun x y => decide (x ≤ y)
def asc (l : List Int) : List Int := (srt l).foldl uq []
theorem uq_last (acc : List Int) (n : Int) : (uq acc n).getLast? = some n := by
  unfold uq; split <;> simp_all
theorem uq_len (s : List Int) : ∀ acc : List Int, (s.foldl uq acc).length ≤ acc.length + s.length := by
  induction s with
  | nil => simp
  | cons n s ih =>
    intro acc
    have h1 := ih (uq acc n)
    have h2 : (uq acc n).length ≤ acc.length + 1 := by unfold uq; split <;> simp
    simp only [List.foldl_cons, List.length_cons]; omega
theorem uqs_snoc (s : List Int) (k : Nat) (x : Int) (h : s[k]? = some x) : (s.take (k + 1)).foldl uq [] = uq ((s.take k).foldl uq []) x := by
  rw [List.take_add_one, h]; simp [List.foldl_append]
theorem uqs_last (s : List Int) (k : Nat) (x : Int) (h : s[k]? = some x) : ((s.take (k + 1)).foldl uq []).getLast? = some x := by
  rw [uqs_snoc s k x h, uq_last]
theorem uqs_mem (s : List Int) : ∀ (acc : List Int) (y : Int), y ∈ s.foldl uq acc ↔ y ∈ acc ∨ y ∈ s := by
  induction s with
  | nil => simp
  | cons n s ih =>
    intro acc y
    simp only [List.foldl_cons, ih, List.mem_cons]
    unfold uq
    split
    · rename_i h
      have : n ∈ acc := List.mem_of_getLast? h
      constructor
      · rintro (h | h) <;> simp [h]
      · rintro (h | rfl | h) <;> simp [*]
    · simp [or_assoc]
theorem asc_mem (l : List Int) (y : Int) : y ∈ asc l ↔ y ∈ l := by
  unfold asc srt
  rw [uqs_mem]
  simp [(List.mergeSort_perm l _).mem_iff]

set_option maxRecDepth 100000 in
set_option maxHeartbeats 1600000 in
theorem ascending {S : Nat → Prop} (v : Value) (l : List Int) (w : World) (h : Reads S w v 1 (irows l)) (hl : l.length ≤ 100000) :
    Calls Tryz.prog 46 #[v] w fun e w' => ∃ v', e = .returned v' ∧ Own w' w.heap.size 3 1 v' (irows (asc l)) ∧ Kept [] w w' := by
  obtain ⟨i0, hi, hz0, hz1, hz2⟩ := info_parts info_int'
  obtain ⟨a0, c0, rfl, _⟩ := h.ints
  have HR := Lib.hid h
  have hsl : (srt l).length ≤ 100000 := by simp [srt]; omega
  have hss : (srt l) = l.mergeSort fun x y => decide (x ≤ y) := rfl
  have HSS := Lib.hid hss
  clear h hss
  unfold asc
  go_enter Tryz.func46, Tryz.ntmps46
  go_wp2_with (first
    | (go_at_call 23; refine (ownInts _ l _ (by exact HR.out) hl).mono ?_; rintro e w1 ⟨v1, rfl, ho, hk1⟩; have HO := Lib.hid ho; have HK1 := Lib.hid hk1; clear ho hk1)
    | (go_at_call 47; refine (sortInts _ l _ (by exact HO.out) (by omega)).mono ?_; rintro e w2 ⟨rfl, ho, hk2⟩; rw [← HSS.out] at ho; have HO2 := Lib.hid ho; have HK2 := Lib.hid (HK1.out.trans' hk2 (fun x hx => .inr (HO.out.lt x (by simpa using hx)).1)); clear ho hk2; generalize hsq : srt l = s at HO2 hsl; have HSQ := Lib.hid hsq; clear hsq; have hrd := HO2.out.rows'; obtain ⟨a1, c1, rfl, p1, p2, p3⟩ := hrd.ints; have P3 := Lib.hid p3; clear p3 hrd HO HR HSS HK1))
  have hslen := hsl
  clear hsl
  go_loopw [4, 13] (fun v i wr => ∃ k : Nat, k ≤ s.length ∧ i = .int .i64 k ∧ Kept [] w2 wr ∧ Hid (Own wr w2.heap.size 3 1 v (irows ((s.take k).foldl uq [])))) (fun _ i _ => s.length - (intOf i).toNat)
  case atStart => exact ⟨0, Nat.zero_le _, rfl, Kept.refl _ _, Own.nil _ _ _ _⟩
  case round =>
    obtain ⟨k, hk, rfl, hkr, hv⟩ := hrel
    obtain ⟨wo, hwo⟩ : ∃ wo : World, wo = wr := ⟨_, rfl⟩
    subst hwo
    by_cases hlt : k < s.length
    · have hne : s ≠ [] := by rintro rfl; simp at hlt
      obtain ⟨b1, o1, rfl, hSb, hb1, hc1⟩ := P3.out.resolve_left hne
      obtain ⟨x, hx⟩ := getp s k hlt
      have cx := hkr.cell' (hc1 k x hx) (by simp)
      have HF := Lib.hid (uqs_snoc s k x hx)
      have hlen : ((s.take k).foldl uq []).length ≤ 100000 := by
        have h1 := uq_len (s.take k) []
        simp at h1; omega
      have hszr := hkr.size
      rcases Nat.eq_zero_or_pos k with h0 | h0
      · subst h0
        simp only [Nat.add_zero] at cx
        have hu : uq ((s.take 0).foldl uq []) x = (s.take 0).foldl uq [] ++ [x] := by simp [uq]
        have HU := Lib.hid hu
        generalize (s.take 0).foldl uq [] = acc at hv hlen HF HU
        clear hc1 hx hne P3 hu
        go_wp2_with (refine wpList_append1 (.tmp 29) (.tmp 30) 22 3 rfl rfl rfl rfl rfl i0 (.int .i64 0) 1 8 Tryz.underlying22 hi hz0 hz1 hz2 rfl (by decide) (by decide) w2.heap.size _ _ (fun _ => rfl) (fun _ => rfl) [.int .i64 x] rfl rfl (by simp [Value.oneCell']) hv.out (by simp; omega) (by simp; omega) (by omega) ?_; intro v2 w3 ho2 hk2 hl2; clear hl2; have HO3 := Lib.hid ho2; have HK3 := Lib.hid hk2; clear ho2 hk2)
        go_roundw
        case rel =>
          have hk2 := HK3.out u4.ownBlock.toList (by intro y hy; simp [hy])
          refine ⟨1, by omega, by go_num, hkr.trans' hk2 (fun y hy => .inr (hv.out.lt y (by simpa using hy)).1), ?_⟩
          rw [Hid, HF.out, HU.out, irows_append]
          exact HO3.out
        case measure => simp [intOf]; omega
      · obtain ⟨j, rfl⟩ : ∃ j, k = j + 1 := ⟨k - 1, by omega⟩
        obtain ⟨y, hy⟩ := getp s j (by omega)
        have cy := hkr.cell' (hc1 j y hy) (by simp)
        have hla := uqs_last s j y hy
        have hjc : ((j + 1 : Nat) : Int) = (j : Int) + 1 := by omega
        have hxy : x = y ∨ x ≠ y := by omega
        rcases hxy with hxy | hxy
        · subst hxy
          have hu : uq ((s.take (j + 1)).foldl uq []) x = (s.take (j + 1)).foldl uq [] := by simp [uq, hla]
          have HU := Lib.hid hu
          generalize (s.take (j + 1)).foldl uq [] = acc at hv hlen HF HU
          clear hc1 hx hne P3 hu hla hy
          go_wp2
          go_roundw
          case rel => exact ⟨j + 2, by omega, by go_num, hkr, by rw [Hid, HF.out, HU.out]; exact hv.out⟩
          case measure => simp [intOf]; omega
        · have hbn : (x != y) = true := bne_iff_ne.2 hxy
          have hu : uq ((s.take (j + 1)).foldl uq []) x = (s.take (j + 1)).foldl uq [] ++ [x] := by simp [uq, hla, Ne.symm hxy]
          have HU := Lib.hid hu
          generalize (s.take (j + 1)).foldl uq [] = acc at hv hlen HF HU
          clear hc1 hx hne P3 hu hla hy
          go_wp2_with (refine wpList_append1 (.tmp 29) (.tmp 30) 22 3 rfl rfl rfl rfl rfl i0 (.int .i64 0) 1 8 Tryz.underlying22 hi hz0 hz1 hz2 rfl (by decide) (by decide) w2.heap.size _ _ (fun _ => rfl) (fun _ => rfl) [.int .i64 x] rfl rfl (by simp [Value.oneCell']) hv.out (by simp; omega) (by simp; omega) (by omega) ?_; intro v2 w3 ho2 hk2 hl2; clear hl2; have HO3 := Lib.hid ho2; have HK3 := Lib.hid hk2; clear ho2 hk2)
          go_roundw
          case rel =>
            have hk2 := HK3.out u4.ownBlock.toList (by intro y hy; simp [hy])
            refine ⟨j + 2, by omega, by go_num, hkr.trans' hk2 (fun y hy => .inr (hv.out.lt y (by simpa using hy)).1), ?_⟩
            rw [Hid, HF.out, HU.out, irows_append]
            exact HO3.out
          case measure => simp [intOf]; omega
    · go_wp2
      go_ret
      have hfin := hv.out
      rw [show k = s.length by omega, List.take_length] at hfin
      exact ⟨_, rfl, by rw [HSQ.out]; exact hfin.mono HK2.out.size, HK2.out.trans hkr⟩
end Go.Proofs.YtkldomkooleecaaGreatDoor

/- Maps: deleting at a key. -/
namespace Go.Proofs.YtkldomkooleecaaGreatDoor
open Go.RowKit Go.Maps Go.MapKept

theorem erase_filter (f : MapEntry → Bool) : ∀ (es : List MapEntry), (es.map (·.key)).Nodup → ∀ (i : Nat) (e : MapEntry), es[i]? = some e → (∀ e' ∈ es, f e' = true ↔ e'.key ≠ e.key) → es.eraseIdx i = es.filter f
  | [], _, i, e, h, _ => by simp at h
  | a :: t, hn, 0, e, h, hf => by
    have he : a = e := by simpa using h
    subst he
    have hn' : a.key ∉ t.map (·.key) ∧ (t.map (·.key)).Nodup := List.nodup_cons.1 (by rw [← List.map_cons (f := fun e : MapEntry => e.key)]; exact hn)
    have hfa : f a = false := by
      cases hfa : f a
      · rfl
      · exact absurd rfl ((hf a (by simp)).1 hfa)
    have ht : t.filter f = t := List.filter_eq_self.2 fun x hx => (hf x (by simp [hx])).2 fun hk => hn'.1 (hk ▸ List.mem_map_of_mem hx)
    rw [List.eraseIdx_cons_zero, List.filter_cons, hfa]
    simpa using ht.symm
  | a :: t, hn, i + 1, e, h, hf => by
    have he : t[i]? = some e := by simpa using h
    have hn' : a.key ∉ t.map (·.key) ∧ (t.map (·.key)).Nodup := List.nodup_cons.1 (by rw [← List.map_cons (f := fun e : MapEntry => e.key)]; exact hn)
    have hfa : f a = true := (hf a (by simp)).2 fun hk => hn'.1 (hk ▸ List.mem_map_of_mem (List.mem_of_getElem? he))
    rw [List.eraseIdx_cons_succ, List.filter_cons, hfa, erase_filter f t hn'.2 i e he fun x hx => hf x (by simp [hx])]
    simp
section
variable {P : Program} {w : World} {ops : Array Oper} {rest : List Oper} {o : Oper} {a : Act} {Q : Exit → Act → World → Prop} {K E t : TypeId} {ok : Value → Prop} {b n : Nat} {es : List MapEntry}
theorem run_delete (law : KeyTy P K ok) (ht : P.underlying t = some (.map K E)) (h : IsMap ok w b es n) {x : Value} (hx : ok x) (f : MapEntry → Bool) (hf : ∀ e ∈ es, f e = true ↔ e.key ≠ x) (t' ty : TypeId) :
    ∃ w', (Builtin.delete_ #[t, t'] ty #[.map (some b), x]).run P w = .ok (.tuple #[]) w' ∧ IsMap ok w' b (es.filter f) n ∧ Kept [b] w w' := by
  by_cases hm : ∃ e ∈ es, e.key = x
  · obtain ⟨e, he, rfl⟩ := hm
    obtain ⟨i, hi⟩ := List.getElem?_of_mem he
    refine ⟨_, h.delete_some law ht hi t' ty, ?_, (Kept.refl _ _).setO (.inl (by simp)) _⟩
    rw [← erase_filter f es h.nodup i e hi hf]
    exact h.erase i
  · have hno : ∀ e ∈ es, e.key ≠ x := fun e he hk => hm ⟨e, he, hk⟩
    refine ⟨_, h.delete_none law ht hx hno t' ty, ?_, (Kept.refl _ _).setO (.inl (by simp)) _⟩
    rw [List.filter_eq_self.2 fun e he => (hf e he).2 (hno e he)]
    exact ⟨setO_get h.obj, h.keys, h.nodup, h.born, h.below⟩
theorem wpList_gmap_delete (hg : o.guard = none) (m k : Operand) (t' : TypeId) (hop : o.op = .call { callee := .builtin .delete, args := #[m, k], argTypes := #[t, t'] }) (law : KeyTy P K ok) (ht : P.underlying t = some (.map K E))
    (x : Value) (hm : a.eval m = .map (some b)) (hx : a.eval k = x) (h : IsMap ok w b es n) (hk : ok x) (f : MapEntry → Bool) (hf : ∀ e ∈ es, f e = true ↔ e.key ≠ x)
    (hN : ∀ w', IsMap ok w' b (es.filter f) n → Kept [b] w w' → w.heap.size ≤ w'.heap.size → wpList P ops Q rest (a.put o.dst (.tuple #[])) w') : wpList P ops Q (o :: rest) a w := by
  refine wpList_plain hg fun K' hK' => ?_
  obtain ⟨w', h1, h2, h3⟩ := run_delete law ht h hk f hf t' o.type
  unfold Oper.wp execOp
  simp only [hop, resolve, invoke, builtin, Sem.run_bind, Sem.run_pure, Result.andThen_ok, List.map_toArray, List.map_cons, List.map_nil, hm, hx, h1]
  exact hK' _ _ (hN _ h2 h3 h3.size)
end

def pairN (v : Value) : Int × Int := match v with | .agg #[.int _ x, .int _ y] => (x, y) | _ => (0, 0)
theorem pairN_pair (x y : Int) : pairN (pairK x y) = (x, y) := rfl
theorem pair_test (e : MapEntry) (hk : PairKey e.key) (x y : Int) : decide (pairN e.key ≠ (x, y)) = true ↔ e.key ≠ pairK x y := by
  obtain ⟨a, b, hab⟩ := hk
  rw [hab, pairN_pair]
  simp only [decide_eq_true_eq, ne_eq, Prod.mk.injEq]
  exact ⟨fun h hk => h (pairK_inj hk), fun h hk => h (by rw [hk.1, hk.2])⟩
theorem node_test (ns : List Nd) (n : Int) : ∀ e ∈ ns.map Nd.ent, (decide (keyN e ≠ n) = true ↔ e.key ≠ .int .i64 n) := by
  intro e he
  obtain ⟨x, _, rfl⟩ := List.mem_map.1 he
  rw [keyN_ent]
  simp [Nd.ent]
/-- A graph without a node. -/
def without (ns : List Nd) (n : Int) : List Nd := ns.filter fun x => decide (x.num ≠ n)
theorem without_ent (ns : List Nd) (n : Int) : (ns.map Nd.ent).filter (fun e => decide (keyN e ≠ n)) = (without ns n).map Nd.ent := by
  rw [List.filter_map]; rfl
theorem edge_without (ns : List Nd) (n x y : Int) : edgeB (without ns n) x y = true ↔ edgeB ns x y = true ∧ x ≠ n := by
  unfold edgeB without
  simp only [List.any_filter, List.any_eq_true, Bool.and_eq_true, beq_iff_eq, decide_eq_true_eq]
  constructor
  · rintro ⟨m, hm, h1, rfl, h2⟩
    exact ⟨⟨m, hm, rfl, h2⟩, h1⟩
  · rintro ⟨⟨m, hm, rfl, h2⟩, h1⟩
    exact ⟨m, hm, h1, rfl, h2⟩
end Go.Proofs.YtkldomkooleecaaGreatDoor

/-  Walks: removing a node. -/
namespace Go.Proofs.YtkldomkooleecaaGreatDoor
open Go.RowKit Go.Maps Go.MapKept

/-- The edges of a graph but for those from n to some. -/
def EdgeR (w : World) (eb : Nat) (ns : List Nd) (n : Int) (us : List Int) : Prop := ∃ es c, IsMap PairKey w eb es c ∧ (∀ e ∈ es, e.val = .bool true) ∧ ∀ x y : Int, (∃ e ∈ es, e.key = pairK x y) ↔ (edgeB ns x y = true ∧ ¬ (x = n ∧ y ∈ us))
theorem EdgeR.start {w : World} {eb : Nat} {ns : List Nd} (n : Int) (h : Edges w eb ns) : EdgeR w eb ns n [] := by
  obtain ⟨es, c, h1, h2, h3⟩ := h
  exact ⟨es, c, h1, h2, fun x y => by rw [h3 x y]; simp⟩
theorem EdgeR.done {w : World} {eb : Nat} {ns : List Nd} {n : Int} {x : Nd} (hp : ns.Pairwise (fun x y => x.num < y.num)) (hx : nodeOf ns n = some x) (h : EdgeR w eb ns n x.uses) : Edges w eb (without ns n) := by
  obtain ⟨es, c, h1, h2, h3⟩ := h
  refine ⟨es, c, h1, h2, fun a y => ?_⟩
  rw [h3 a y, edge_without]
  refine ⟨fun h => ⟨h.1, fun ha => h.2 ⟨ha, ?_⟩⟩, fun h => ⟨h.1, fun ha => h.2 ha.1⟩⟩
  subst ha
  have he := h.1
  unfold edgeB at he
  obtain ⟨m, hm, hmm⟩ := List.any_eq_true.1 he
  simp only [Bool.and_eq_true, beq_iff_eq] at hmm
  have hxx := nodeOf_some hx
  have := nums_unique hp hm hxx.1 (by rw [hmm.1, hxx.2])
  subst this
  exact List.contains_iff_mem.1 hmm.2
theorem EdgeR.step {w' : World} {eb c : Nat} {ns : List Nd} {n u : Int} {us : List Int} {es : List MapEntry} (h2 : ∀ e ∈ es, e.val = .bool true) (hk : ∀ e ∈ es, PairKey e.key)
    (h3 : ∀ x y : Int, (∃ e ∈ es, e.key = pairK x y) ↔ (edgeB ns x y = true ∧ ¬ (x = n ∧ y ∈ us)))
    (h1 : IsMap PairKey w' eb (es.filter fun e => decide (pairN e.key ≠ (n, u))) c) : EdgeR w' eb ns n (us ++ [u]) := by
  refine ⟨_, _, h1, fun e he => h2 e (List.mem_filter.1 he).1, fun x y => ?_⟩
  have hl : (∃ e ∈ es.filter fun e => decide (pairN e.key ≠ (n, u)), e.key = pairK x y) ↔ ((∃ e ∈ es, e.key = pairK x y) ∧ ¬ (x = n ∧ y = u)) := by
    constructor
    · rintro ⟨e, he, hq⟩
      obtain ⟨he1, he2⟩ := List.mem_filter.1 he
      refine ⟨⟨e, he1, hq⟩, fun hxy => ?_⟩
      rw [pair_test e (hk e he1)] at he2
      exact he2 (by rw [hq, hxy.1, hxy.2])
    · rintro ⟨⟨e, he, hq⟩, hxy⟩
      refine ⟨e, List.mem_filter.2 ⟨he, ?_⟩, hq⟩
      rw [pair_test e (hk e he), hq]
      exact fun hp => hxy (pairK_inj hp)
  rw [hl, h3 x y]
  simp only [List.mem_append, List.mem_singleton]
  constructor
  · rintro ⟨⟨h4, h5⟩, h6⟩
    exact ⟨h4, fun h7 => h7.2.elim (fun h8 => h5 ⟨h7.1, h8⟩) (fun h8 => h6 ⟨h7.1, h8⟩)⟩
  · rintro ⟨h4, h5⟩
    exact ⟨⟨h4, fun h7 => h5 ⟨h7.1, .inl h7.2⟩⟩, fun h7 => h5 ⟨h7.1, .inr h7.2⟩⟩
theorem EdgeR.kept {w w' : World} {eb : Nat} {ns : List Nd} {n : Int} {us : List Int} {M : List Nat} (h : EdgeR w eb ns n us) (k : Kept M w w') (hn : eb ∉ M) : EdgeR w' eb ns n us := by
  obtain ⟨es, c, h1, h2⟩ := h
  exact ⟨es, c, h1.kept k hn, h2⟩

/-- A removal's turn. -/
inductive RemTurn (d : Nat) (w : World) (b nb eb base last : Nat) (ns : List Nd) (n : Int) : Ending → World → Prop
  | no {w' : World} (hx : nodeOf ns n = none) (k : Kept [] w w') : RemTurn d w b nb eb base last ns n (.returned (.int .i64 7)) w'
  | used {w' : World} (x : Nd) (hx : nodeOf ns n = some x) (hu : usedBy ns n ≠ []) (k : Kept [] w w') : RemTurn d w b nb eb base last ns n (.returned (.int .i64 10)) w'
  | gone {w' : World} (x : Nd) (hx : nodeOf ns n = some x) (hu : usedBy ns n = []) (h : GAt d w' b nb eb base last (without ns n)) (k : Kept [nb, eb] w w') : RemTurn d w b nb eb base last ns n (.returned (.int .i64 0)) w'

theorem GAt.without {d : Nat} {w w' : World} {b nb eb base last : Nat} {ns : List Nd} (n : Int) (h : GAt d w b nb eb base last ns) (k : Kept [nb, eb] w w')
    (hm : ∃ c, IsMap IntKey w' nb ((without ns n).map Nd.ent) c) (he : Edges w' eb (Go.Proofs.YtkldomkooleecaaGreatDoor.without ns n)) : GAt d w' b nb eb base last (Go.Proofs.YtkldomkooleecaaGreatDoor.without ns n) := by
  have hs : (Go.Proofs.YtkldomkooleecaaGreatDoor.without ns n).Sublist ns := List.filter_sublist
  refine ⟨h.lt1, h.lt2, h.lt3, Nat.le_trans h.lt4 k.size, h.ne1, h.ne2, h.ne3, h.blk.kept k (by simp [h.ne1, h.ne2]), hm, he, fun x hx => ?_, h.nums.sublist hs, fun x hx => h.rng x (hs.subset hx)⟩
  obtain ⟨h1, h2, h3⟩ := h.data x (hs.subset hx)
  have q1 := h.lt2
  have q2 := h.lt3
  exact ⟨(DL.good d).kept h1 k (by simp; omega), h2.kept k (by simp; omega), h3⟩

set_option maxRecDepth 100000 in
set_option maxHeartbeats 1600000 in
theorem gRemove (d : Nat) (b nb eb base last : Nat) (ns : List Nd) (n : Int) (w : World) (h : GAt d w b nb eb base last ns) (hl : ns.length ≤ 1000000) :
    Calls Tryz.prog 27 #[.pointer (some ⟨b, 0, none⟩), .int .i64 n] w fun e w' => RemTurn d w b nb eb base last ns n e w' := by
  have HG := Lib.hid h
  have hul : (usedBy ns n).length ≤ 1000000 := by
    have := List.length_filter_le (fun m => edgeB ns m n) (ns.map Nd.num)
    unfold usedBy
    simp at this; omega
  clear h
  cases hx : nodeOf ns n with
  | none =>
    have HX := Lib.hid hx
    go_enter Tryz.func27, Tryz.ntmps27
    go_wp2_with (go_at_call 28; refine (gHas d b nb eb base last ns n _ (by exact HG.out)).mono ?_; rintro e w1 ⟨rfl, hk1⟩; rw [HX.out]; have HK1 := Lib.hid hk1; clear hk1)
    go_ret
    exact .no HX.out HK1.out
  | some x =>
    have HX := Lib.hid hx
    have HND := Lib.hid hx
    clear hx
    rcases hu : usedBy ns n with _ | ⟨u0, ut⟩
    · have HU := Lib.hid hu
      have hfd := field_snd
      go_enter Tryz.func27, Tryz.ntmps27
      go_wp2_with (first
        | (go_at_call 28; refine (gHas d b nb eb base last ns n _ (by exact HG.out)).mono ?_; rintro e w1 ⟨rfl, hk1⟩; rw [HX.out]; have HK1 := Lib.hid hk1; clear hk1)
        | (go_at_call 11; refine (gDependents d b nb eb base last ns n _ (by exact HG.out.kept0 HK1.out) hl).mono ?_; rintro e w2 ⟨v2, rfl, ho, hk2⟩; rw [HU.out] at ho; obtain ⟨a2, c2, rfl, _⟩ := ho.rows'.ints; have HK2 := Lib.hid (HK1.out.trans hk2); have hg2 := HG.out.kept0 HK2.out; have HG2 := Lib.hid hg2; have e1 := hg2.blk.cell 1 _ rfl; have hlk := hg2.look_some HX.out false; obtain ⟨hd, huu, hl1, hl2⟩ := hg2.data x (nodeOf_some HX.out).1; obtain ⟨a3, c3, hdv, _⟩ := hd.form; obtain ⟨a4, c4, huv, q1, q2, q3⟩ := huu.ints; simp only [Bool.false_eq_true, if_false, hdv, huv] at hlk; have Q3 := Lib.hid q3; clear ho hk2 hg2 hd huu hdv huv q3 HK1 HG))
      have HED := Lib.hid (EdgeR.start n HG2.out.edges)
      have hslt := HG2.out.lt4
      have hn2 := HG2.out.lt2
      have hn3 := HG2.out.lt3
      go_loopw [26] (fun i wr => ∃ k : Nat, k ≤ x.uses.length ∧ i = .int .i64 k ∧ Kept [eb] w2 wr ∧ Hid (EdgeR wr eb ns n (x.uses.take k))) (fun i _ => x.uses.length - (intOf i).toNat)
      case atStart => exact ⟨0, Nat.zero_le _, rfl, Kept.refl _ _, by rw [List.take_zero]; exact HED⟩
      case round =>
        obtain ⟨k, hk, rfl, hkr, hed⟩ := hrel
        obtain ⟨wo, hwo⟩ : ∃ wo : World, wo = wr := ⟨_, rfl⟩
        subst hwo
        by_cases hlt : k < x.uses.length
        · have hne : x.uses ≠ [] := by intro h; rw [h] at hlt; simp at hlt
          obtain ⟨b3, o3, rfl, hSb, hb3, hc3⟩ := Q3.out.resolve_left hne
          obtain ⟨u, hu⟩ := getp x.uses k hlt
          have cx := hkr.cell' (hc3 k u hu) (by simp; omega)
          have e2 := (HG2.out.blk.kept hkr (by simpa using HG2.out.ne2)).cell 2 _ rfl
          obtain ⟨es, c, m1, m2, m3⟩ := hed.out
          have M1 := Lib.hid m1
          have M2 := Lib.hid m2
          have M3 := Lib.hid m3
          have HT := Lib.hid (show x.uses.take (k + 1) = x.uses.take k ++ [u] by rw [List.take_add_one, hu]; rfl)
          clear hc3 hu hne Q3 m1 m2 m3 hed
          go_wp2_with (refine wpList_gmap_delete rfl (.tmp 33) (.tmp 36) 69 rfl key_pair Tryz.underlying65 (pairK n u) rfl rfl M1.out ⟨n, u, rfl⟩ (fun e => decide (pairN e.key ≠ (n, u))) (fun e he => pair_test e (M1.out.keys e he) n u) ?_; intro w3 hm3 hk3 hz3; have HM3 := Lib.hid hm3; have HK3 := Lib.hid hk3; clear hm3 hk3 hz3)
          go_roundw
          case rel =>
            refine ⟨k + 1, by omega, by go_num, hkr.trans HK3.out, ?_⟩
            rw [Hid, HT.out]
            exact EdgeR.step M2.out M1.out.keys M3.out HM3.out
          case measure => simp [intOf]; omega
        · have hfin := hed.out
          rw [show k = x.uses.length by omega, List.take_length] at hfin
          have HFIN := Lib.hid hfin
          obtain ⟨c, hmn⟩ := HG2.out.nodes
          have HMN := Lib.hid (hmn.kept hkr (by simpa using HG2.out.ne3))
          have e3 := (HG2.out.blk.kept hkr (by simpa using HG2.out.ne2)).cell 1 _ rfl
          clear hfin hed hmn
          go_wp2_with (refine wpList_gmap_delete rfl (.tmp 41) (.tmp 42) 3 rfl key_int Tryz.underlying64 (.int .i64 n) rfl rfl HMN.out ⟨n, rfl⟩ (fun e => decide (keyN e ≠ n)) (node_test ns n) ?_; intro w3 hm3 hk3 hz3; have HM3 := Lib.hid hm3; have HK3 := Lib.hid hk3; clear hm3 hk3 hz3)
          go_ret
          have hkk : Kept [nb, eb] w2 w3 := (hkr.mono (M' := [nb, eb]) (by simp)).trans (HK3.out.mono (by simp))
          have hm3 := HM3.out
          rw [without_ent] at hm3
          exact .gone x HX.out HU.out (HG2.out.without n hkk ⟨_, hm3⟩ ((EdgeR.done HG2.out.nums HX.out HFIN.out).kept HK3.out (by simpa using HG2.out.ne3.symm))) (HK2.out.nil.trans hkk)
    · have HU := Lib.hid hu
      go_enter Tryz.func27, Tryz.ntmps27
      go_wp2_with (first
        | (go_at_call 28; refine (gHas d b nb eb base last ns n _ (by exact HG.out)).mono ?_; rintro e w1 ⟨rfl, hk1⟩; rw [HX.out]; have HK1 := Lib.hid hk1; clear hk1)
        | (go_at_call 11; refine (gDependents d b nb eb base last ns n _ (by exact HG.out.kept0 HK1.out) hl).mono ?_; rintro e w2 ⟨v2, rfl, ho, hk2⟩; rw [HU.out] at ho; obtain ⟨a2, c2, rfl, _⟩ := ho.rows'.ints; have HK2 := Lib.hid (HK1.out.trans hk2); clear ho hk2))
      go_ret
      exact .used x HX.out (by simp [HU.out]) HK2.out
end Go.Proofs.YtkldomkooleecaaGreatDoor

/- Adding a node: the plain part. -/
namespace Go.Proofs.YtkldomkooleecaaGreatDoor
open Go.RowKit Go.Maps Go.MapKept

/-- The edges of a graph and those from n to some. -/
def EdgeA (w : World) (eb : Nat) (ns : List Nd) (n : Int) (us : List Int) : Prop := ∃ es c, IsMap PairKey w eb es c ∧ (∀ e ∈ es, e.val = .bool true) ∧ ∀ x y : Int, (∃ e ∈ es, e.key = pairK x y) ↔ (edgeB ns x y = true ∨ (x = n ∧ y ∈ us))
theorem EdgeA.start {w : World} {eb : Nat} {ns : List Nd} (n : Int) (h : Edges w eb ns) : EdgeA w eb ns n [] := by
  obtain ⟨es, c, h1, h2, h3⟩ := h
  exact ⟨es, c, h1, h2, fun x y => by rw [h3 x y]; simp⟩
theorem EdgeA.kept {w w' : World} {eb : Nat} {ns : List Nd} {n : Int} {us : List Int} {M : List Nat} (h : EdgeA w eb ns n us) (k : Kept M w w') (hn : eb ∉ M) : EdgeA w' eb ns n us := by
  obtain ⟨es, c, h1, h2⟩ := h
  exact ⟨es, c, h1.kept k hn, h2⟩
/-- One more edge, at a new key. -/
theorem EdgeA.new {w' : World} {eb c c' : Nat} {ns : List Nd} {n u : Int} {us : List Int} {es : List MapEntry} (h2 : ∀ e ∈ es, e.val = .bool true)
    (h3 : ∀ x y : Int, (∃ e ∈ es, e.key = pairK x y) ↔ (edgeB ns x y = true ∨ (x = n ∧ y ∈ us)))
    (h1 : IsMap PairKey w' eb (es ++ [({ key := pairK n u, val := .bool true, born := c } : MapEntry)]) c') : EdgeA w' eb ns n (us ++ [u]) := by
  refine ⟨_, _, h1, fun e he => ?_, fun x y => ?_⟩
  · rcases List.mem_append.1 he with he | he
    · exact h2 e he
    · rw [List.mem_singleton] at he
      subst he; rfl
  · have hl : (∃ e ∈ es ++ [({ key := pairK n u, val := .bool true, born := c } : MapEntry)], e.key = pairK x y) ↔ ((∃ e ∈ es, e.key = pairK x y) ∨ pairK n u = pairK x y) := by
      simp only [List.mem_append, List.mem_singleton]
      constructor
      · rintro ⟨e, he | rfl, hq⟩
        · exact .inl ⟨e, he, hq⟩
        · exact .inr hq
      · rintro (⟨e, he, hq⟩ | hq)
        · exact ⟨e, .inl he, hq⟩
        · exact ⟨_, .inr rfl, hq⟩
    rw [hl, h3 x y]
    simp only [List.mem_append, List.mem_singleton]
    constructor
    · rintro ((h | h) | h)
      · exact .inl h
      · exact .inr ⟨h.1, .inl h.2⟩
      · have := pairK_inj h
        exact .inr ⟨this.1.symm, .inr this.2.symm⟩
    · rintro (h | ⟨h, h' | h'⟩)
      · exact .inl (.inl h)
      · exact .inl (.inr ⟨h, h'⟩)
      · exact .inr (by rw [h, h'])
/-- One more edge, at a key that stands. -/
theorem EdgeA.old {w' : World} {eb c i : Nat} {ns : List Nd} {n u : Int} {us : List Int} {es : List MapEntry} {e : MapEntry} (h2 : ∀ e ∈ es, e.val = .bool true) (hi : es[i]? = some e) (he : e.key = pairK n u)
    (h3 : ∀ x y : Int, (∃ e ∈ es, e.key = pairK x y) ↔ (edgeB ns x y = true ∨ (x = n ∧ y ∈ us)))
    (h1 : IsMap PairKey w' eb (es.set i { e with val := .bool true }) c) : EdgeA w' eb ns n (us ++ [u]) := by
  have hs : es.set i { e with val := .bool true } = es := set_same (by rw [hi]; congr 1; have := h2 e (List.mem_of_getElem? hi); cases e; simp_all)
  rw [hs] at h1
  refine ⟨_, _, h1, h2, fun x y => ?_⟩
  rw [h3 x y]
  have hnu := (h3 n u).1 ⟨e, List.mem_of_getElem? hi, he⟩
  simp only [List.mem_append, List.mem_singleton]
  constructor
  · rintro (h | h)
    · exact .inl h
    · exact .inr ⟨h.1, .inl h.2⟩
  · rintro (h | ⟨h, h' | h'⟩)
    · exact .inl h
    · exact .inr ⟨h, h'⟩
    · rw [h, h']; exact hnu
theorem EdgeA.done {w : World} {eb : Nat} {ns : List Nd} {n : Int} {us : List Int} {x : Nd} (hx : x.num = n) (hu : ∀ y, y ∈ x.uses ↔ y ∈ us) (h : EdgeA w eb ns n us) : Edges w eb (ns ++ [x]) := by
  obtain ⟨es, c, h1, h2, h3⟩ := h
  refine ⟨es, c, h1, h2, fun a y => ?_⟩
  rw [h3 a y]
  unfold edgeB
  simp only [List.any_append, List.any_cons, List.any_nil, Bool.or_false, Bool.or_eq_true, Bool.and_eq_true, beq_iff_eq, List.contains_iff_mem]
  rw [hx, hu y]
  exact ⟨fun h => h.imp id fun h => ⟨h.1.symm, h.2⟩, fun h => h.imp id fun h => ⟨h.1.symm, h.2⟩⟩

/-- The graph with a node more. -/
theorem GAt.added {d : Nat} {w w' : World} {b nb eb base last : Nat} {ns : List Nd} (h : GAt d w b nb eb base last ns) (x : Nd) (hx : x.num = last + 1) (k : Kept [b, nb, eb] w w')
    (hb : Blk w' b [.int .i64 ((last + 1 : Nat) : Int), .map (some nb), .map (some eb)] 67) (hm : ∃ c, IsMap IntKey w' nb ((ns ++ [x]).map Nd.ent) c) (he : Edges w' eb (ns ++ [x]))
    (hd : DL d (base ≤ ·) w' x.dv x.deps ∧ Reads (base ≤ ·) w' x.uv 1 (irows x.uses) ∧ x.deps.length ≤ 1000 ∧ x.uses.length ≤ 1000) : GAt d w' b nb eb base (last + 1) (ns ++ [x]) := by
  have q1 := h.lt1
  have q2 := h.lt2
  have q3 := h.lt3
  refine ⟨h.lt1, h.lt2, h.lt3, Nat.le_trans h.lt4 k.size, h.ne1, h.ne2, h.ne3, hb, hm, he, fun y hy => ?_, ?_, fun y hy => ?_⟩
  · rcases List.mem_append.1 hy with hy | hy
    · obtain ⟨h1, h2, h3⟩ := h.data y hy
      exact ⟨(DL.good d).kept h1 k (by simp; omega), h2.kept k (by simp; omega), h3⟩
    · rw [List.mem_singleton] at hy
      subst hy; exact hd
  · rw [List.pairwise_append]
    refine ⟨h.nums, by simp, fun y hy z hz => ?_⟩
    rw [List.mem_singleton] at hz
    subst hz
    have := (h.rng y hy).2
    omega
  · rcases List.mem_append.1 hy with hy | hy
    · have := h.rng y hy
      omega
    · rw [List.mem_singleton] at hy
      subst hy; omega
end Go.Proofs.YtkldomkooleecaaGreatDoor

/- Walks: adding a node. -/
namespace Go.Proofs.YtkldomkooleecaaGreatDoor
open Go.RowKit Go.Maps Go.MapKept

/-- An adding's turn. -/
inductive AddTurn (d : Nat) (w : World) (b nb eb base last : Nat) (ns : List Nd) (ds : List Dp) (us : List Int) : Ending → World → Prop
  | no {w' : World} (u : Int) (hu : u ∈ us) (hx : nodeOf ns u = none) (k : Kept [] w w') : AddTurn d w b nb eb base last ns ds us (.returned (.tuple #[.int .i64 0, .int .i64 7])) w'
  | yes {w' : World} (hu : ∀ u ∈ us, nodeOf ns u ≠ none) (dv uv : Value) (born : Nat) (h : GAt d w' b nb eb base (last + 1) (ns ++ [⟨((last + 1 : Nat) : Int), ds, asc us, dv, uv, born⟩])) (k : Kept [b, nb, eb] w w') :
      AddTurn d w b nb eb base last ns ds us (.returned (.tuple #[.int .i64 ((last + 1 : Nat) : Int), .int .i64 0])) w'

/-- An adding's turn, its lists new. -/
inductive AddF (d : Nat) (w : World) (b nb eb base last : Nat) (ns : List Nd) (ds : List Dp) (us : List Int) : Ending → World → Prop
  | no {w' : World} (u : Int) (hu : u ∈ us) (hx : nodeOf ns u = none) (k : Kept [] w w') : AddF d w b nb eb base last ns ds us (.returned (.tuple #[.int .i64 0, .int .i64 7])) w'
  | yes {w' : World} (hu : ∀ u ∈ us, nodeOf ns u ≠ none) (dv uv : Value) (born : Nat) (h : GAt d w' b nb eb base (last + 1) (ns ++ [⟨((last + 1 : Nat) : Int), ds, asc us, dv, uv, born⟩])) (k : Kept [b, nb, eb] w w')
      (hd : DL d (w.heap.size ≤ ·) w' dv ds ∧ Reads (w.heap.size ≤ ·) w' uv 1 (irows (asc us))) :
      AddF d w b nb eb base last ns ds us (.returned (.tuple #[.int .i64 ((last + 1 : Nat) : Int), .int .i64 0])) w'
theorem AddF.turn {d : Nat} {w w' : World} {b nb eb base last : Nat} {ns : List Nd} {ds : List Dp} {us : List Int} {e : Ending} (h : AddF d w b nb eb base last ns ds us e w') : AddTurn d w b nb eb base last ns ds us e w' := by
  cases h with
  | no u hu hx k => exact .no u hu hx k
  | yes hu dv uv born h k hd => exact .yes hu dv uv born h k

theorem asc_length (l : List Int) : (asc l).length ≤ l.length := by
  have := uq_len (srt l) []
  have h2 : (srt l).length = l.length := by simp [srt]
  unfold asc
  simp at this; omega

set_option maxRecDepth 100000 in
set_option maxHeartbeats 6400000 in
theorem gAddF (d : Nat) {S S' : Nat → Prop} (b nb eb base last : Nat) (ns : List Nd) (vd vu : Value) (ds : List Dp) (us : List Int) (w : World) (h : GAt d w b nb eb base last ns) (hd : DL d S w vd ds) (hu : Reads S' w vu 1 (irows us))
    (hS : ∀ x, S x → x ≠ b ∧ x ≠ nb ∧ x ≠ eb) (hS' : ∀ x, S' x → x ≠ b ∧ x ≠ nb ∧ x ≠ eb) (hl : last < 100000) (hdl : ds.length ≤ 1000) (hul : us.length ≤ 1000) :
    Calls Tryz.prog 22 #[.pointer (some ⟨b, 0, none⟩), vd, vu] w fun e w' => AddF d w b nb eb base last ns ds us e w' := by
  have HG := Lib.hid h
  have HD := Lib.hid hd
  have HUR := Lib.hid hu
  have HS := Lib.hid hS
  have HS' := Lib.hid hS'
  obtain ⟨a1, c1, rfl, _⟩ := hd.form
  obtain ⟨a2, c2, rfl, p1, p2, p3⟩ := hu.ints
  have P3 := Lib.hid p3
  have e0 := h.blk.cell 0 _ rfl
  clear h hd hu hS hS' p3
  have hge : ¬ ((100000 : Int) ≤ last) := by omega
  have HL := Lib.hid hl
  clear hl
  go_enter Tryz.func22, Tryz.ntmps22
  go_wp2
  go_loopw [19] (fun i wr => ∃ k : Nat, k ≤ us.length ∧ i = .int .i64 k ∧ Kept [] w wr ∧ Hid (∀ u ∈ us.take k, nodeOf ns u ≠ none)) (fun i _ => us.length - (intOf i).toNat)
  case atStart => exact ⟨0, Nat.zero_le _, rfl, Kept.refl _ _, by simp [Hid]⟩
  case round =>
    obtain ⟨k, hk, rfl, hkr, hno⟩ := hrel
    obtain ⟨wo, hwo⟩ : ∃ wo : World, wo = wr := ⟨_, rfl⟩
    subst hwo
    by_cases hlt : k < us.length
    · have hne : us ≠ [] := by intro h; rw [h] at hlt; simp at hlt
      obtain ⟨b3, o3, rfl, hSb, hb3, hc3⟩ := P3.out.resolve_left hne
      obtain ⟨u, hu⟩ := getp us k hlt
      have cx := hkr.cell' (hc3 k u hu) (by simp)
      have HU := Lib.hid hu
      clear hc3 hu hne P3
      cases hx : nodeOf ns u with
      | none =>
        have HX := Lib.hid hx
        clear hx
        go_wp2_with (go_at_call 28; refine (gHas d b nb eb base last ns u _ (by exact HG.out.kept0 hkr)).mono ?_; rintro e w1 ⟨rfl, hk1⟩; rw [HX.out]; have HK1 := Lib.hid hk1; clear hk1)
        go_ret2
        exact AddF.no u (List.mem_of_getElem? HU.out) HX.out (hkr.trans HK1.out)
      | some x =>
        have HX := Lib.hid hx
        clear hx
        go_wp2_with (go_at_call 28; refine (gHas d b nb eb base last ns u _ (by exact HG.out.kept0 hkr)).mono ?_; rintro e w1 ⟨rfl, hk1⟩; rw [HX.out]; have HK1 := Lib.hid hk1; clear hk1)
        go_roundw
        case rel =>
          refine ⟨k + 1, by omega, by go_num, hkr.trans HK1.out, ?_⟩
          rw [Hid, List.take_add_one, HU.out]
          intro y hy
          rcases List.mem_append.1 hy with hy | hy
          · exact hno.out y hy
          · have : y = u := by simpa using hy
            rw [this, HX.out]; simp
        case measure => simp [intOf]; omega
    · have f0 := (HG.out.kept0 hkr).blk.cell 0 _ rfl
      have hns : ∀ u ∈ us, nodeOf ns u ≠ none := by
        have := hno.out
        rwa [show k = us.length by omega, List.take_length] at this
      have HNS := Lib.hid hns
      have f9 := (HG.out.kept0 hkr).blk.frozen 0
      have hw : IntKind.i64.wrap ((last : Int) + 1) = (last : Int) + 1 := IntWalk.i64_in _ (by omega)
      clear hns hno hge
      go_upto_region 10 with (fail)
      obtain ⟨wb, hwb⟩ : ∃ wb : World, wb = wo.setCell ⟨b, 0, none⟩ (.int .i64 ((last : Int) + 1)) := ⟨_, rfl⟩
      have hkb : Kept [b] wo wb := by rw [hwb]; exact (Kept.refl [b] wo).setCell (by simp) _
      have hbb : Blk wb b [.int .i64 ((last : Int) + 1), .map (some nb), .map (some eb)] 67 := by rw [hwb]; exact (HG.out.kept0 hkr).blk.set 0 _
      have HBB := Lib.hid hbb
      rw [← hwb]
      clear hwb f0 f9 hbb
      have HDB : Hid (∀ W, Kept [] wb W → Calls Tryz.prog 36 #[.slice a1 ds.length c1] W fun e w' => ∃ v', e = .returned v' ∧ Gr (fun S w e (x : Dp) => DR d S w e x) Dp.row 7 45 (wb.heap.size ≤ ·) wb.heap.size w' v' ds ∧ Kept [] W w' ∧ Kept [] wb w') := Lib.hid (fun W hW => by
        refine (ownDeps d _ ds W ((DL.good d).kept ((DL.good d).kept ((DL.good d).kept HD.out hkr (by simp)) hkb (by intro x hx hs; exact (HS.out x hs).1 (by simpa using hx))) hW (by simp)) (by omega)).mono ?_
        rintro e w' ⟨v', rfl, ho, hk⟩
        have hz := hW.size
        exact ⟨v', rfl, Gr.mono (DR.good d) ho hz (fun y _ hy => Nat.le_trans hz hy), hk, hW.trans hk⟩)
      have HAB : Hid (∀ W, Kept [] wb W → Calls Tryz.prog 46 #[.slice a2 us.length c2] W fun e w' => ∃ v', e = .returned v' ∧ Own w' wb.heap.size 3 1 v' (irows (asc us)) ∧ Kept [] W w' ∧ Kept [] wb w') := Lib.hid (fun W hW => by
        refine (ascending _ us W ((HUR.out.kept hkr (by simp)).kept hkb (by intro x hx hs; exact (HS'.out x hs).1 (by simpa using hx)) |>.kept hW (by simp)) (by omega)).mono ?_
        rintro e w' ⟨v', rfl, ho, hk⟩
        exact ⟨v', rfl, ho.mono hW.size, hk, hW.trans hk⟩)
      obtain ⟨c, hmn⟩ := HG.out.nodes
      have HMN := Lib.hid ((hmn.kept hkr (by simp)).kept hkb (by simpa using HG.out.ne1.symm))
      have hnew : ∀ e ∈ ns.map Nd.ent, e.key ≠ .int .i64 ((last : Int) + 1) := by
        intro e he
        obtain ⟨y, hy, rfl⟩ := List.mem_map.1 he
        have := (HG.out.rng y hy).2
        intro hq
        have hq2 : y.num = (last : Int) + 1 := by simpa [Nd.ent] using hq
        omega
      have HNEW := Lib.hid hnew
      clear hmn hnew
      have HKF : Hid (∀ M w', Kept M wb w' → b ∉ M → w'.cell? ⟨b, 0, none⟩ = some (.int .i64 ((last : Int) + 1)) ∧ w'.cell? ⟨b, 1, none⟩ = some (.map (some nb))) := Lib.hid (fun M w' hk hn => ⟨(HBB.out.kept hk hn).cell 0 _ rfl, (HBB.out.kept hk hn).cell 1 _ rfl⟩)
      have hbnb : b ∉ [nb] := by simpa using HG.out.ne1
      go_region_held3 (fun w' => w'.cell? ⟨b, 0, none⟩ = some (.int .i64 ((last : Int) + 1)) ∧ w'.cell? ⟨b, 1, none⟩ = some (.map (some nb)))
        (first | with_reducible exact HKF.out _ _ (hkn _) hbnb | with_reducible exact HKF.out _ _ hk9 List.not_mem_nil | with_reducible exact HKF.out _ _ ((Kept.refl [] wb).drew) List.not_mem_nil)
        (first
          | (go_at_call 36; (refine Calls.mono (HDB.out _ (by first | exact hk9 | exact (Kept.refl [] wb).drew)) ?_; rintro q w3 ⟨qd, rfl, hqt, hqk, hk9⟩; obtain ⟨da, dc, rfl, _⟩ := hqt.shape; have HQD := Lib.hid hqt; (try (have HQU := Lib.hid (HQU.out.kept hqk (by simp)))); clear hqt; have hkn : ∀ ob, Kept [nb] wb (setO w3 nb ob) := fun ob => (hk9.nil).setO (.inl (by simp)) ob; (try (have hup := (HMN.out.kept hk9 (by simp)).update_new key_int Tryz.underlying64 (x := .int .i64 ((last : Int) + 1)) (v := .agg #[.slice da ds.length dc, .slice ua (asc us).length uc]) ⟨_, rfl⟩ HNEW.out))))
          | (go_at_call 46; (refine Calls.mono (HAB.out _ (by first | exact hk9 | exact (Kept.refl [] wb).drew)) ?_; rintro q w3 ⟨qu, rfl, hqt, hqk, hk9⟩; obtain ⟨ua, uc, rfl, _⟩ := hqt.shape; have HQU := Lib.hid hqt; (try (have HQD := Lib.hid (Gr.kept (DR.good d) HQD.out hqk (by simp) (by simp)))); clear hqt; have hkn : ∀ ob, Kept [nb] wb (setO w3 nb ob) := fun ob => (hk9.nil).setO (.inl (by simp)) ob; (try (have hup := (HMN.out.kept hk9 (by simp)).update_new key_int Tryz.underlying64 (x := .int .i64 ((last : Int) + 1)) (v := .agg #[.slice da ds.length dc, .slice ua (asc us).length uc]) ⟨_, rfl⟩ HNEW.out)))))
      have hm5 := (HMN.out.kept hk9 (by simp)).snoc (v := .agg #[.slice da ds.length dc, .slice ua (asc us).length uc]) (x := .int .i64 ((last : Int) + 1)) ⟨_, rfl⟩ HNEW.out
      have hk5 := hkn (.map (ns.map Nd.ent ++ [({ key := .int .i64 ((last : Int) + 1), val := .agg #[.slice da ds.length dc, .slice ua (asc us).length uc], born := c } : MapEntry)]).toArray (c + 1))
      have hk35 : Kept [nb] w3 (setO w3 nb (.map (ns.map Nd.ent ++ [({ key := .int .i64 ((last : Int) + 1), val := .agg #[.slice da ds.length dc, .slice ua (asc us).length uc], born := c } : MapEntry)]).toArray (c + 1))) := (Kept.refl _ _).setO (.inl (by simp)) _
      obtain ⟨w5, hw5⟩ : ∃ w5 : World, w5 = setO w3 nb (.map (ns.map Nd.ent ++ [({ key := .int .i64 ((last : Int) + 1), val := .agg #[.slice da ds.length dc, .slice ua (asc us).length uc], born := c } : MapEntry)]).toArray (c + 1)) := ⟨_, rfl⟩
      rw [← hw5] at hm5 hk5 hk35 ⊢
      clear hw5
      have hnlt := HG.out.lt2
      have hls := HG.out.lt4
      have hsw := hkr.size
      have hsb := hkb.size
      have HDT : Hid (DL d (w.heap.size ≤ ·) w5 (.slice da ds.length dc) ds) := (DL.good d).kept (Gr.rd (DR.good d) (Gr.mono (DR.good d) HQD.out (base' := w.heap.size) (S' := (w.heap.size ≤ ·)) (by omega) (fun y _ hy => by omega)) (fun y hy => hy)) hk35 (by simp; omega)
      have HUT : Hid (Reads (w.heap.size ≤ ·) w5 (.slice ua (asc us).length uc) 1 (irows (asc us))) := by
        have := HQU.out.rows'
        rw [irows_length] at this
        exact (this.mono (fun y _ hy => by omega)).kept hk35 (by simp; omega)
      have HM5 := Lib.hid hm5
      have HK5 := Lib.hid hk5
      have HB5 := Lib.hid (HBB.out.kept hk5 (by simpa using HG.out.ne1))
      have HE5 : Hid (EdgeA w5 eb ns ((last : Int) + 1) []) := EdgeA.start _ (((HG.out.edges.kept hkr (by simp)).kept hkb (by simpa using HG.out.ne2.symm)).kept hk5 (by simpa using HG.out.ne3.symm))
      have HSZ : Hid (w.heap.size ≤ wb.heap.size) := by show _ ≤ _; omega
      clear hup hm5 hk5 hk35 hqk hk9 hkn HQD HQU hbnb HKF HNEW HMN HAB HDB HBB hnlt hls hsw hsb
      go_wp2
      go_loopw [50] (fun q wr => ∃ k2 : Nat, k2 ≤ us.length ∧ q = .int .i64 k2 ∧ Kept [eb] w5 wr ∧ Hid (EdgeA wr eb ns ((last : Int) + 1) (us.take k2))) (fun q _ => us.length - (intOf q).toNat)
      case atStart => exact ⟨0, Nat.zero_le _, rfl, Kept.refl _ _, by rw [List.take_zero]; exact HE5⟩
      case round =>
        obtain ⟨k2, hk2, rfl, hkr2, hed⟩ := hrel
        obtain ⟨wi, hwi⟩ : ∃ wi : World, wi = wr := ⟨_, rfl⟩
        subst hwi
        have hbi := HB5.out.kept hkr2 (by simpa using HG.out.ne2)
        have f0 := hbi.cell 0 _ rfl
        have f2 := hbi.cell 2 _ rfl
        have HBI := Lib.hid hbi
        clear hbi
        by_cases hlt2 : k2 < us.length
        · have hne : us ≠ [] := by intro h; rw [h] at hlt2; simp at hlt2
          obtain ⟨b3, o3, rfl, hSb, hb3, hc3⟩ := P3.out.resolve_left hne
          obtain ⟨u, hu⟩ := getp us k2 hlt2
          have hnn := HS'.out _ hSb
          have cx := hkr2.cell' (HK5.out.cell' (hkb.cell' (hkr.cell' (hc3 k2 u hu) (by simp)) (by simpa using hnn.1)) (by simpa using hnn.2.1)) (by simpa using hnn.2.2)
          obtain ⟨es, ce, m1, m2, m3⟩ := hed.out
          have M1 := Lib.hid m1
          have M2 := Lib.hid m2
          have M3 := Lib.hid m3
          have HT := Lib.hid (show us.take (k2 + 1) = us.take k2 ++ [u] by rw [List.take_add_one, hu]; rfl)
          clear hc3 hu hne P3 m1 m2 m3 hed hnn hSb hb3
          have hwd : Kept [] wi wi.drew := (Kept.refl [] wi).drew
          have HKF2 : Hid (∀ M w', Kept M wi w' → b ∉ M → w'.cell? ⟨b, 0, none⟩ = some (.int .i64 ((last : Int) + 1)) ∧ w'.cell? ⟨b, 2, none⟩ = some (.map (some eb))) := Lib.hid (fun M w' hk hn => ⟨(HBI.out.kept hk hn).cell 0 _ rfl, (HBI.out.kept hk hn).cell 2 _ rfl⟩)
          have hbeb : b ∉ [eb] := by simpa using HG.out.ne2
          by_cases hin : ∃ e ∈ es, e.key = pairK ((last : Int) + 1) u
          · obtain ⟨e, he, hek⟩ := hin
            obtain ⟨i, hi⟩ := List.getElem?_of_mem he
            obtain ⟨ekey, ev, ebn⟩ := e
            simp only at hek
            subst hek
            have hup := (M1.out.kept hwd (by simp)).update_old key_pair Tryz.underlying65 hi (.bool true)
            have HM7 := Lib.hid ((M1.out.kept hwd (by simp)).set hi (.bool true))
            have hkn2 : Kept [eb] wi (setO wi.drew eb (.map (es.set i { key := pairK ((last : Int) + 1) u, val := .bool true, born := ebn }).toArray ce)) := (hwd.nil).setO (.inl (by simp)) _
            have HI := Lib.hid hi
            simp only [pairK] at hup hkn2
            clear hi he
            go_upto_region 14 with (fail)
            go_region_held3 (fun w' => w'.cell? ⟨b, 0, none⟩ = some (.int .i64 ((last : Int) + 1)) ∧ w'.cell? ⟨b, 2, none⟩ = some (.map (some eb)))
              (first | with_reducible exact HKF2.out _ _ hkn2 hbeb | with_reducible exact HKF2.out _ _ hwd List.not_mem_nil)
              (fail)
            go_wp2
            go_roundw
            case rel =>
              refine ⟨k2 + 1, by omega, by go_num, hkr2.trans hkn2, ?_⟩
              rw [Hid, HT.out]
              exact EdgeA.old M2.out HI.out rfl M3.out HM7.out
            case measure => simp [intOf]; omega
          · have hno : ∀ e ∈ es, e.key ≠ pairK ((last : Int) + 1) u := fun e he hk => hin ⟨e, he, hk⟩
            have hup := (M1.out.kept hwd (by simp)).update_new key_pair Tryz.underlying65 (x := pairK ((last : Int) + 1) u) (v := .bool true) ⟨_, _, rfl⟩ hno
            have HM7 := Lib.hid ((M1.out.kept hwd (by simp)).snoc (x := pairK ((last : Int) + 1) u) (v := .bool true) ⟨_, _, rfl⟩ hno)
            have hkn2 : Kept [eb] wi (setO wi.drew eb (.map (es ++ [({ key := pairK ((last : Int) + 1) u, val := .bool true, born := ce } : MapEntry)]).toArray (ce + 1))) := (hwd.nil).setO (.inl (by simp)) _
            simp only [pairK] at hup hkn2 HM7
            clear hin hno
            go_upto_region 14 with (fail)
            go_region_held3 (fun w' => w'.cell? ⟨b, 0, none⟩ = some (.int .i64 ((last : Int) + 1)) ∧ w'.cell? ⟨b, 2, none⟩ = some (.map (some eb)))
              (first | with_reducible exact HKF2.out _ _ hkn2 hbeb | with_reducible exact HKF2.out _ _ hwd List.not_mem_nil)
              (fail)
            go_wp2
            go_roundw
            case rel =>
              refine ⟨k2 + 1, by omega, by go_num, hkr2.trans hkn2, ?_⟩
              rw [Hid, HT.out]
              exact EdgeA.new M2.out M3.out HM7.out
            case measure => simp [intOf]; omega
        · go_wp2
          go_ret2
          have hfin := hed.out
          rw [show k2 = us.length by omega, List.take_length] at hfin
          have hkall : Kept [b, nb, eb] w wi := (((hkr.nil (M := [b, nb, eb])).trans (hkb.mono (by simp))).trans (HK5.out.mono (by simp))).trans (hkr2.mono (by simp))
          have hcast : ((last : Int) + 1) = ((last + 1 : Nat) : Int) := by omega
          have hdw : DL d (w.heap.size ≤ ·) wi (.slice da ds.length dc) ds ∧ Reads (w.heap.size ≤ ·) wi (.slice ua (asc us).length uc) 1 (irows (asc us)) :=
            ⟨(DL.good d).kept HDT.out hkr2 (by have := HG.out.lt3; have := HG.out.lt4; simp; omega), HUT.out.kept hkr2 (by have := HG.out.lt3; have := HG.out.lt4; simp; omega)⟩
          have hgat : GAt d wi b nb eb base (last + 1) (ns ++ [⟨((last + 1 : Nat) : Int), ds, asc us, .slice da ds.length dc, .slice ua (asc us).length uc, c⟩]) := by
            have hed2 : Edges wi eb (ns ++ [⟨((last + 1 : Nat) : Int), ds, asc us, .slice da ds.length dc, .slice ua (asc us).length uc, c⟩]) := EdgeA.done (w := wi) (n := (last : Int) + 1) (us := us) (by simp) (fun y => asc_mem us y) hfin
            refine HG.out.added (w' := wi) ⟨((last + 1 : Nat) : Int), ds, asc us, .slice da ds.length dc, .slice ua (asc us).length uc, c⟩ (by simp) hkall (by rw [← hcast]; exact HBI.out) ⟨c + 1, ?_⟩ hed2 ⟨(DL.good d).mono hdw.1 (fun y _ h => Nat.le_trans HG.out.lt4 h), hdw.2.mono (fun y _ h => Nat.le_trans HG.out.lt4 h), hdl, Nat.le_trans (asc_length us) hul⟩
            rw [List.map_append]
            have := HM5.out.kept hkr2 (by simpa using HG.out.ne3)
            simpa [Nd.ent] using this
          have hy := AddF.yes (d := d) (w := w) (us := us) HNS.out (.slice da ds.length dc) (.slice ua (asc us).length uc) c hgat hkall hdw
          rw [← hcast] at hy
          exact hy
theorem gAdd (d : Nat) {S S' : Nat → Prop} (b nb eb base last : Nat) (ns : List Nd) (vd vu : Value) (ds : List Dp) (us : List Int) (w : World) (h : GAt d w b nb eb base last ns) (hd : DL d S w vd ds) (hu : Reads S' w vu 1 (irows us))
    (hS : ∀ x, S x → x ≠ b ∧ x ≠ nb ∧ x ≠ eb) (hS' : ∀ x, S' x → x ≠ b ∧ x ≠ nb ∧ x ≠ eb) (hl : last < 100000) (hdl : ds.length ≤ 1000) (hul : us.length ≤ 1000) :
    Calls Tryz.prog 22 #[.pointer (some ⟨b, 0, none⟩), vd, vu] w fun e w' => AddTurn d w b nb eb base last ns ds us e w' :=
  (gAddF d b nb eb base last ns vd vu ds us w h hd hu hS hS' hl hdl hul).mono fun _ _ h => h.turn
end Go.Proofs.YtkldomkooleecaaGreatDoor
