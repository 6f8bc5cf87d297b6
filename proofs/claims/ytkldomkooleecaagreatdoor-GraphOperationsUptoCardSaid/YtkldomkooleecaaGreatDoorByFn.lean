/- Walks: the nodes with a dependency on a function. -/
import Derived.Test.YtkldomkooleecaaGreatDoorNodes
namespace Go.Proofs.YtkldomkooleecaaGreatDoor
open Go.RowKit Go.Maps Go.MapKept

def onFn (fn : ByteArray) (x : Dp) : Bool := x.fn.toList == fn.toList
theorem onFn_iff (fn : ByteArray) (x : Dp) : onFn fn x = true ↔ x.fn = fn := by
  unfold onFn
  rw [beq_iff_eq]
  exact ⟨str_inj, fun h => by rw [h]⟩
/-- The nodes with a dependency on a function. -/
def byFn (ns : List Nd) (fn : ByteArray) : List Int := (ns.map Nd.num).filter fun m => (depsOf ns m).any (onFn fn)
theorem any_take_snoc {α : Type} (f : α → Bool) (l : List α) (k : Nat) (x : α) (h : l[k]? = some x) : (l.take (k + 1)).any f = ((l.take k).any f || f x) := by
  rw [List.take_add_one, h]; simp
theorem any_of_get {α : Type} (f : α → Bool) (l : List α) (k : Nat) (x : α) (h : l[k]? = some x) (hf : f x = true) : l.any f = true :=
  List.any_eq_true.2 ⟨x, List.mem_of_getElem? h, hf⟩
theorem depsOf_some {ns : List Nd} {n : Int} {x : Nd} (h : nodeOf ns n = some x) : depsOf ns n = x.deps := by simp [depsOf, h]
theorem nodeOf_num {ns : List Nd} (hp : ns.Pairwise (fun x y => x.num < y.num)) {k : Nat} {m : Int} (h : (ns.map Nd.num)[k]? = some m) : ∃ x, nodeOf ns m = some x := by
  obtain ⟨x, hx, rfl⟩ := List.mem_map.1 (List.mem_of_getElem? h)
  exact ⟨x, nodeOf_mem hp hx⟩

set_option maxRecDepth 100000 in
set_option maxHeartbeats 1600000 in
theorem gByFunction (d : Nat) (b nb eb base last : Nat) (ns : List Nd) (fn : ByteArray) (w : World) (h : GAt d w b nb eb base last ns) (hl : ns.length ≤ 1000000) :
    Calls Tryz.prog 20 #[.pointer (some ⟨b, 0, none⟩), .string fn] w fun e w' => ∃ v', e = .returned v' ∧ Own w' w.heap.size 3 1 v' (irows (byFn ns fn)) ∧ Kept [] w w' := by
  obtain ⟨i0, hi, hz0, hz1, hz2⟩ := info_parts info_int'
  have HG := Lib.hid h
  have hll : (ns.map Nd.num).length ≤ 1000000 := by simpa using hl
  have HND := Lib.hid (fun (k : Nat) (m : Int) (hm : (ns.map Nd.num)[k]? = some m) => nodeOf_num h.nums hm)
  clear h
  unfold byFn
  go_enter Tryz.func20, Tryz.ntmps20
  go_wp2_with (go_at_call 24; refine (gNodes d b nb eb base last ns _ (by exact HG.out) hl).mono ?_; rintro e w1 ⟨v1, rfl, ho, hk1⟩; have HO := Lib.hid ho.rows'; have HK1 := Lib.hid hk1; have HG1 := Lib.hid (HG.out.kept0 hk1); clear ho hk1 HG hl; generalize hlq : ns.map Nd.num = l at HO hll HND; have HLQ := Lib.hid hlq; clear hlq; obtain ⟨a1, c1, rfl, p1, p2, p3⟩ := HO.out.ints; have P3 := Lib.hid p3; clear p3 HO)
  go_loopw [5, 13] (fun v i wr => ∃ k : Nat, k ≤ l.length ∧ i = .int .i64 k ∧ Kept [] w1 wr ∧ Hid (Own wr w1.heap.size 3 1 v (irows ((l.take k).filter fun m => (depsOf ns m).any (onFn fn))))) (fun _ i _ => l.length - (intOf i).toNat)
  case atStart => exact ⟨0, Nat.zero_le _, rfl, Kept.refl _ _, Own.nil _ _ _ _⟩
  case round =>
    obtain ⟨k, hk, rfl, hkr, hv⟩ := hrel
    obtain ⟨wo, hwo⟩ : ∃ wo : World, wo = wr := ⟨_, rfl⟩
    subst hwo
    by_cases hlt : k < l.length
    · have hne : l ≠ [] := by rintro rfl; simp at hlt
      obtain ⟨b1, o1, rfl, hSb, hb1, hc1⟩ := P3.out.resolve_left hne
      obtain ⟨m, hm⟩ := getp l k hlt
      obtain ⟨x, hx⟩ := HND.out k m hm
      have cx := hkr.cell' (hc1 k m hm) (by simp)
      have hgo := HG1.out.kept0 hkr
      have e1 := hgo.blk.cell 1 _ rfl
      have hlk := hgo.look_some hx false
      simp only [Bool.false_eq_true, if_false] at hlk
      obtain ⟨hd, hu, hl1, hl2⟩ := hgo.data x (nodeOf_some hx).1
      obtain ⟨a2, c2, hdv, q1, q2, q3⟩ := hd.form
      obtain ⟨a3, c3, huv, _⟩ := hu.ints
      rw [hdv, huv] at hlk
      have hfd := field_fst
      have Q3 := Lib.hid q3
      have hdo := depsOf_some hx
      have hfs := filter_snoc (fun m => (depsOf ns m).any (onFn fn)) l k m hm
      simp only [hdo] at hfs
      have HF := Lib.hid hfs
      generalize x.deps = ds at Q3 HF q1 q2 hl1 hlk
      clear hc1 hm hx hne P3 HG1 hgo hd hu hdv huv q3 hdo hfs HND
      have hlen : ((l.take k).filter fun m => (depsOf ns m).any (onFn fn)).length ≤ 1000000 := by
        have h1 := List.length_filter_le (fun m => (depsOf ns m).any (onFn fn)) (l.take k)
        simp only [List.length_take] at h1
        omega
      generalize hacc : (l.take k).filter (fun m => (depsOf ns m).any (onFn fn)) = acc at hv hlen HF
      clear hacc
      have hszr := hkr.size
      obtain ⟨uo, huo⟩ : ∃ uo, uo = u5 := ⟨_, rfl⟩
      subst huo
      go_wp2
      go_loopw [5, 25] (fun v j wi => ∃ q : Nat, v = uo ∧ q ≤ ds.length ∧ j = .int .i64 q ∧ Kept [] wo wi ∧ Hid ((ds.take q).any (onFn fn) = false)) (fun _ j _ => ds.length - (intOf j).toNat)
      case atStart => exact ⟨0, rfl, Nat.zero_le _, rfl, Kept.refl _ _, by simp [Hid]⟩
      case round =>
        obtain ⟨q, rfl, hq, rfl, hki, hno⟩ := hrel
        by_cases hlq : q < ds.length
        · have hnd : ds ≠ [] := by rintro rfl; simp at hlq
          obtain ⟨b2, o2, rfl, _, hb2, hc2⟩ := Q3.out.resolve_left hnd
          obtain ⟨y, hy⟩ := getp ds q hlq
          obtain ⟨qa, qc, ra, rc, hr, _, _, _⟩ := hc2 q y hy
          have HR := Lib.hid (hki.range hr (by simp))
          have HS := Lib.hid (any_take_snoc (onFn fn) ds q y hy)
          have HY := Lib.hid (any_of_get (onFn fn) ds q y hy)
          clear hc2 hr hnd Q3 hy
          obtain ⟨xf, ⟨tk, tn, ti, ta⟩, xk, xl⟩ := y
          simp only [Dp.row, vfst_pair, vsnd_pair, Ty.kind, Ty.name, Ty.index, Ty.args] at HR
          go_upto_region 8 with (first
            | (refine wpList_load_mid rfl 45 (.tmp 27) rfl b2 (o2 + q * 7) rfl [.string xf, .int .i64 tk, .string tn, .int .i64 ti, .slice qa ta.length qc, .int .i64 xk, .slice ra xl.length rc] _ HR.out Tryz.underlying45 rfl (by kernel_rfl) ?_)
            | (refine wpList_allocStore (.tmp 28) 45 rfl rfl rfl rfl rfl rfl _ [.string xf, .int .i64 tk, .string tn, .int .i64 ti, .slice qa ta.length qc, .int .i64 xk, .slice ra xl.length rc] info_dep2 rfl (fun _ => rfl) (fun _ => rfl) (by simp [Value.oneCell']) ?_))
          obtain ⟨A, hA⟩ : ∃ A, A = wr.heap.size := ⟨_, rfl⟩
          obtain ⟨wb, hwb⟩ : ∃ wb : World, wb = wr.alloc (.cells (List.toArray [.string xf, .int .i64 tk, .string tn, .int .i64 ti, .slice qa ta.length qc, .int .i64 xk, .slice ra xl.length rc]) 45) := ⟨_, rfl⟩
          have hkb : Kept [] wo wb := by rw [hwb]; exact hki.alloc _
          have c0 : wb.cell? ⟨A, 0, none⟩ = some (.string xf) := by rw [hwb, hA]; exact (Blk.new wr _ _).cell 0 _ rfl
          rw [← hA, ← hwb]
          have hvb := Lib.hid (hv.out.kept hkb (by simp))
          have hszb := hkb.size
          clear hwb HR hA hki
          obtain ⟨eg, heg⟩ : ∃ eg, eg = (xf.toList == fn.toList) := ⟨_, rfl⟩
          have hbe := heg.symm
          have HBE := Lib.hid hbe
          clear heg
          cases eg
          rotate_left
          · go_wp2_with (refine wpList_append1 (.tmp 34) (.tmp 35) 22 3 rfl rfl rfl rfl rfl i0 (.int .i64 0) 1 8 Tryz.underlying22 hi hz0 hz1 hz2 rfl (by decide) (by decide) w1.heap.size _ _ (fun _ => rfl) (fun _ => rfl) [.int .i64 m] rfl rfl (by simp [Value.oneCell']) hvb.out (by simp; omega) (by simp; omega) (by omega) ?_; intro v2 w2 ho2 hk2 hl2; clear hl2; have HO2 := Lib.hid ho2; have HK2 := Lib.hid hk2; clear ho2 hk2)
            go_roundw
            case rel =>
              have hk2 := HK2.out u5.ownBlock.toList (by intro y hy; simp [hy])
              refine ⟨k + 1, by omega, by go_num, (hkr.trans hkb).trans' hk2 (fun y hy => .inr (hv.out.lt y (by simpa using hy)).1), ?_⟩
              have h1 := HF.out
              rw [HY.out HBE.out] at h1
              rw [Hid, h1]
              simp only [if_true]
              rw [irows_append]
              exact HO2.out
            case measure => simp [intOf]; omega
          · go_wp2
            go_roundw
            case rel => exact ⟨q + 1, rfl, by omega, by go_num, hkb, by rw [Hid, HS.out, hno.out]; simp [onFn, HBE.out]⟩
            case measure => simp [intOf]; omega
        · go_wp2
          go_roundw
          case rel =>
            refine ⟨k + 1, by omega, by go_num, hkr.trans hki, ?_⟩
            have h1 := hno.out
            rw [show q = ds.length by omega, List.take_length] at h1
            have h2 := HF.out
            rw [h1] at h2
            rw [Hid, h2]
            simpa using hv.out.kept hki (by simp)
          case measure => simp [intOf]; omega
    · go_wp2
      go_ret
      have hfin := hv.out
      rw [show k = l.length by omega, List.take_length] at hfin
      exact ⟨_, rfl, by rw [HLQ.out]; exact hfin.mono HK1.out.size, HK1.out.trans hkr⟩
end Go.Proofs.YtkldomkooleecaaGreatDoor
