/- Walks: the nodes of a graph, and those that use a node. -/
import Derived.Test.YtkldomkooleecaaGreatDoorSortI
import Derived.Maps.RangeWalk
namespace Go.Proofs.YtkldomkooleecaaGreatDoor
open Go.RowKit Go.Maps Go.MapKept

def keyN (e : MapEntry) : Int := match e.key with | .int _ n => n | _ => 0
theorem keyN_ent (x : Nd) : keyN x.ent = x.num := rfl
theorem sort_same {l : List Int} (h : l.Pairwise (· < ·)) : (l.mergeSort fun x y => decide (x ≤ y)) = l :=
  List.mergeSort_of_pairwise (h.imp (by intro a b h; simp; omega))
theorem nums_asc {ns : List Nd} (h : ns.Pairwise (fun x y => x.num < y.num)) : (ns.map Nd.num).Pairwise (· < ·) := by
  rw [List.pairwise_map]; exact h
theorem perm_nums {ns : List Nd} (hp : ns.Pairwise (fun x y => x.num < y.num)) {done : List MapEntry} (h : done.Perm (ns.map Nd.ent)) : ((done.map keyN).mergeSort fun x y => decide (x ≤ y)) = ns.map Nd.num := by
  rw [sort_perm (h.map keyN)]
  have : (ns.map Nd.ent).map keyN = ns.map Nd.num := by rw [List.map_map]; rfl
  rw [this, sort_same (nums_asc hp)]

set_option maxRecDepth 100000 in
set_option maxHeartbeats 1600000 in
theorem gNodes (d : Nat) (b nb eb base last : Nat) (ns : List Nd) (w : World) (h : GAt d w b nb eb base last ns) (hl : ns.length ≤ 1000000) :
    Calls Tryz.prog 24 #[.pointer (some ⟨b, 0, none⟩)] w fun e w' => ∃ v', e = .returned v' ∧ Own w' w.heap.size 3 1 v' (irows (ns.map Nd.num)) ∧ Kept [] w w' := by
  obtain ⟨i0, hi, hz0, hz1, hz2⟩ := info_parts info_int'
  have e1 := h.blk.cell 1 _ rfl
  obtain ⟨c, hmap⟩ := h.nodes
  have hlt := hmap.lt
  have hpm := Lib.hid (fun (done : List MapEntry) (hp : done.Perm (ns.map Nd.ent)) => perm_nums h.nums hp)
  have HM := Lib.hid hmap
  have hen : ∀ e ∈ ns.map Nd.ent, ∃ x : Int, e.key = .int .i64 x ∧ keyN e = x := by
    intro e he
    obtain ⟨x, _, rfl⟩ := List.mem_map.1 he
    exact ⟨x.num, rfl, rfl⟩
  have HE := Lib.hid hen
  have hel : (ns.map Nd.ent).length ≤ 1000000 := by simpa using hl
  clear h hmap hen hl
  generalize ns.map Nd.ent = es at HM HE hel hpm
  go_enter Tryz.func24, Tryz.ntmps24
  go_wp2_with (refine wpList_gmap_range rfl (.tmp 8) rfl Tryz.underlying64 rfl HM.out ?_; intro w0 hs0 hi0 hk0 hz0; have HK0 := Lib.hid hk0; clear hk0)
  go_frame
  go_loopg [3] es.length (fun k v wr => ∃ done : List MapEntry, k = es.length - done.length ∧ done.length ≤ es.length ∧ IsMap IntKey wr nb es c ∧ IsIt wr w.heap.size nb c es done ∧ Own wr (w.heap.size + 1) 3 1 v (irows (done.map keyN)) ∧ Kept [] w wr ∧ w.heap.size + 1 ≤ wr.heap.size)
  case atStart => exact ⟨[], by simp, by simp, hs0, hi0, Own.nil _ _ _ _, HK0.out, hz0⟩
  case round =>
    obtain ⟨done, rfl, hdl, hsr, hir, hown, hkr, hsz⟩ := hrel
    have HR := Lib.hid hsr
    have HI := Lib.hid hir
    have HO := Lib.hid hown
    have HK := Lib.hid hkr
    clear hsr hir hown hs0 hi0 hz0 hkr
    have hne : w.heap.size ≠ nb := by omega
    go_wp2_with (at_next; refine wpList_gmap_next rfl (.tmp 9) rfl w.heap.size done rfl HR.out HI.out hne ?_ ?_)
    · intro hall
      have HA := Lib.hid hall
      clear hall
      have hdl2 : (done.map keyN).length < 4611686018427387904 := by simp; omega
      go_wp2_with (go_at_call 47; refine (sortInts u3 _ _ HO.out hdl2).mono ?_; rintro e w1 ⟨rfl, ho, hk⟩; have HO1 := Lib.hid ho; have HK1 := Lib.hid hk; clear ho hk)
      go_ret
      have hp := hpm.out _ (IsIt.perm HR.out HI.out HA.out)
      refine ⟨u3, rfl, ?_, HK.out.trans' HK1.out (fun x hx => .inr ?_)⟩
      · have := HO1.out
        rw [hp] at this
        exact this.mono (by omega)
      · have := (HO.out.lt x (by simpa using hx)).1
        omega
    · intro e w1 hme hnd hs1 hi1 hk1 hz1' hen
      obtain ⟨x, hx1, hx2⟩ := HE.out e hme
      rw [hx1] at hen ⊢
      have HX := Lib.hid hx2
      have HS1 := Lib.hid hs1
      have HI1 := Lib.hid hi1
      have HO1 := Lib.hid (HO.out.kept hk1 (fun y hy => by have := (HO.out.lt y hy).1; simp; omega))
      have HK1 := Lib.hid (HK.out.trans' hk1 (by simp))
      have hsz1 : w.heap.size + 1 ≤ w1.heap.size := by omega
      have hdl3 := HI1.out.less
      simp only [List.length_append, List.length_cons, List.length_nil] at hdl3
      clear hs1 hi1 hk1 hz1' hx1 hx2 hme hnd
      go_wp2_with (refine wpList_append1 (.tmp 14) (.tmp 15) 22 3 rfl rfl rfl rfl rfl i0 (.int .i64 0) 1 8 Tryz.underlying22 hi hz0 hz1 hz2 rfl (by decide) (by decide) (w.heap.size + 1) _ _ (fun _ => rfl) (fun _ => rfl) [.int .i64 x] rfl rfl (by simp [Value.oneCell']) HO1.out (by simp; omega) (by simp; omega) (by omega) ?_; intro v2 w2 ho2 hk2 hl2; clear hl2; have HO2 := Lib.hid ho2; have HK2 := Lib.hid hk2; clear ho2 hk2)
      go_roundg (es.length - (done ++ [e]).length)
      case rel =>
        have hkk : Kept u3.ownBlock.toList w1 w2 := HK2.out _ (by intro y hy; simp [hy])
        refine ⟨done ++ [e], rfl, by simp; omega, HS1.out.kept hkk ?_, HI1.out.kept hkk ?_, ?_, HK1.out.trans' hkk ?_, ?_⟩
        · intro hb
          have := (HO1.out.lt nb (by simpa using hb)).1
          omega
        · intro hb
          have := (HO1.out.lt _ (by simpa using hb)).1
          omega
        · rw [List.map_append, irows_append]
          simp only [List.map_cons, List.map_nil, HX.out]
          exact HO2.out
        · intro y hy
          have := (HO1.out.lt y (by simpa using hy)).1
          right; omega
        · have := hkk.size; omega
      case measure => simp; omega
end Go.Proofs.YtkldomkooleecaaGreatDoor

/-  Walks: the nodes that use a node. -/
namespace Go.Proofs.YtkldomkooleecaaGreatDoor
open Go.RowKit Go.Maps Go.MapKept

theorem filter_snoc {α : Type} (f : α → Bool) (l : List α) (k : Nat) (x : α) (h : l[k]? = some x) : (l.take (k + 1)).filter f = (l.take k).filter f ++ (if f x then [x] else []) := by
  rw [List.take_add_one, h, List.filter_append]
  cases hf : f x <;> simp [hf]
/-- The nodes that use n. -/
def usedBy (ns : List Nd) (n : Int) : List Int := (ns.map Nd.num).filter fun m => edgeB ns m n

set_option maxRecDepth 100000 in
set_option maxHeartbeats 1600000 in
theorem gDependents (d : Nat) (b nb eb base last : Nat) (ns : List Nd) (n : Int) (w : World) (h : GAt d w b nb eb base last ns) (hl : ns.length ≤ 1000000) :
    Calls Tryz.prog 11 #[.pointer (some ⟨b, 0, none⟩), .int .i64 n] w fun e w' => ∃ v', e = .returned v' ∧ Own w' w.heap.size 3 1 v' (irows (usedBy ns n)) ∧ Kept [] w w' := by
  obtain ⟨i0, hi, hz0, hz1, hz2⟩ := info_parts info_int'
  have HG := Lib.hid h
  have hll : (ns.map Nd.num).length ≤ 1000000 := by simpa using hl
  clear h
  unfold usedBy
  go_enter Tryz.func11, Tryz.ntmps11
  go_wp2_with (go_at_call 24; refine (gNodes d b nb eb base last ns _ (by exact HG.out) hl).mono ?_; rintro e w1 ⟨v1, rfl, ho, hk1⟩; have HO := Lib.hid ho.rows'; have HK1 := Lib.hid hk1; have HG1 := Lib.hid (HG.out.kept0 hk1); clear ho hk1 HG hl; generalize hlq : ns.map Nd.num = l at HO hll; have HLQ := Lib.hid hlq; clear hlq; obtain ⟨a1, c1, rfl, p1, p2, p3⟩ := HO.out.ints; have P3 := Lib.hid p3; clear p3 HO)
  go_loopw [5, 11] (fun v i wr => ∃ k : Nat, k ≤ l.length ∧ i = .int .i64 k ∧ Kept [] w1 wr ∧ Hid (Own wr w1.heap.size 3 1 v (irows ((l.take k).filter fun m => edgeB ns m n)))) (fun _ i _ => l.length - (intOf i).toNat)
  case atStart => exact ⟨0, Nat.zero_le _, rfl, Kept.refl _ _, Own.nil _ _ _ _⟩
  case round =>
    obtain ⟨k, hk, rfl, hkr, hv⟩ := hrel
    obtain ⟨wo, hwo⟩ : ∃ wo : World, wo = wr := ⟨_, rfl⟩
    subst hwo
    by_cases hlt : k < l.length
    · have hne : l ≠ [] := by rintro rfl; simp at hlt
      obtain ⟨b1, o1, rfl, hSb, hb1, hc1⟩ := P3.out.resolve_left hne
      obtain ⟨x, hx⟩ := getp l k hlt
      have cx := hkr.cell' (hc1 k x hx) (by simp)
      have e2 := (HG1.out.kept0 hkr).blk.cell 2 _ rfl
      have hlk := (HG1.out.kept0 hkr).look_edge x n
      have HF := Lib.hid (filter_snoc (fun m => edgeB ns m n) l k x hx)
      clear hc1 hx hne P3 HG1
      have hlen : ((l.take k).filter fun m => edgeB ns m n).length ≤ 1000000 := by
        have h1 := List.length_filter_le (fun m => edgeB ns m n) (l.take k)
        simp only [List.length_take] at h1
        omega
      obtain ⟨eg, heg⟩ : ∃ eg, eg = edgeB ns x n := ⟨_, rfl⟩
      have HE := Lib.hid heg
      rw [← heg] at hlk
      clear heg
      generalize hacc : (l.take k).filter (fun m => edgeB ns m n) = acc at hv hlen HF
      have HACC := Lib.hid hacc
      clear hacc
      cases eg
      · go_wp2
        go_roundw
        case rel => exact ⟨k + 1, by omega, by go_num, hkr, by have h1 := HF.out; have h2 := HE.out; simp only [← h2] at h1; rw [Hid, h1]; simpa using hv.out⟩
        case measure => simp [intOf]; omega
      · have hszr := hkr.size
        go_wp2_with (refine wpList_append1 (.tmp 23) (.tmp 24) 22 3 rfl rfl rfl rfl rfl i0 (.int .i64 0) 1 8 Tryz.underlying22 hi hz0 hz1 hz2 rfl (by decide) (by decide) w1.heap.size _ _ (fun _ => rfl) (fun _ => rfl) [.int .i64 x] rfl rfl (by simp [Value.oneCell']) hv.out (by simp; omega) (by simp; omega) (by omega) ?_; intro v2 w2 ho2 hk2 hl2; clear hl2; have HO2 := Lib.hid ho2; have HK2 := Lib.hid hk2; clear ho2 hk2)
        go_roundw
        case rel =>
          have hk2 := HK2.out u5.ownBlock.toList (by intro y hy; simp [hy])
          refine ⟨k + 1, by omega, by go_num, hkr.trans' hk2 (fun y hy => .inr (hv.out.lt y (by simpa using hy)).1), ?_⟩
          have h1 := HF.out
          have h2 := HE.out
          simp only [← h2] at h1
          rw [Hid, h1]
          simp only [if_true]
          rw [irows_append]
          exact HO2.out
        case measure => simp [intOf]; omega
    · go_wp2
      go_ret
      have hfin := hv.out
      rw [show k = l.length by omega, List.take_length] at hfin
      exact ⟨_, rfl, by rw [HLQ.out]; exact hfin.mono HK1.out.size, HK1.out.trans hkr⟩
end Go.Proofs.YtkldomkooleecaaGreatDoor
