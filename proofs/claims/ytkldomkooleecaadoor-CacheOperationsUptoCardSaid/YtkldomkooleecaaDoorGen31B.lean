/- Generated operations on a cache: the walk (under way). -/
import Derived.Test.YtkldomkooleecaaDoorGen31
namespace Go.Proofs.YtkldomkooleecaaDoor
open Go.RowKit

theorem info_act2 : (Tryd.prog.info? 33).map (fun i => (i.zero, i.size)) = some (some (.agg #[.int .i64 0, .int .i64 0, .int .i64 0, .int .i64 0, .int .i64 0, .int .i64 0, .int .i64 0, .string ⟨#[]⟩, .int .i64 0, .slice none 0 0]), 10) := by kernel_rfl
theorem one_ty {w : World} {b : Nat} {t : TypeId} (s : ByteArray) (h : Blk w b [.int .i64 2, .string s, .int .i64 0, .slice none 0 0] t) : TR 1 (fun y => y = b) w (.slice (some ⟨b, 0, none⟩) 1 1) [named s] := by
  refine ⟨by simp, [.slice none 0 0], rfl, ⟨by simp [Ty.row, Value.oneCell'], _, _, rfl, by simp, by simp [maxLen], .inr ⟨b, 0, rfl, rfl, h.lt, fun k r hk j u hu => ?_⟩⟩, fun k x e hx he => ?_⟩
  · match k, hk with
    | 0, hk =>
      simp at hk
      subst hk
      rw [Nat.zero_mul, Nat.add_zero, Nat.zero_add]
      exact h.cell j u hu
    | k + 1, hk => simp at hk
  · match k, hx, he with
    | 0, hx, he =>
      simp at hx he
      subst hx he
      exact TR.nil 0 _ _
    | k + 1, hx, _ => simp at hx

/-- The three types in a block of their own. -/
theorem tys_rd {S : Nat → Prop} {w : World} {b b1 b2 : Nat} {t : TypeId} (h : Blk w b [.int .i64 3, .string ⟨#[]⟩, .int .i64 0, .slice none 0 0, .int .i64 3, .string ⟨#[]⟩, .int .i64 0, .slice (some ⟨b1, 0, none⟩) 1 1, .int .i64 3, .string ⟨#[]⟩, .int .i64 0, .slice (some ⟨b2, 0, none⟩) 1 1] t) (hS : S b)
    (h1 : TR 1 S w (.slice (some ⟨b1, 0, none⟩) 1 1) [named sInt]) (h2 : TR 1 S w (.slice (some ⟨b2, 0, none⟩) 1 1) [named sBool]) :
    Rd (fun S w e (x : Ty) => TR 1 S w e x.args) Ty.row 4 S w (.slice (some ⟨b, 0, none⟩) 3 3) tys := by
  refine ⟨[.slice none 0 0, .slice (some ⟨b1, 0, none⟩) 1 1, .slice (some ⟨b2, 0, none⟩) 1 1], rfl, ⟨by simp [tys, tyOf, Ty.row, Ty.kind, Ty.name, Ty.index, Value.oneCell'], _, _, rfl, by simp [tys], by simp [maxLen], .inr ⟨b, 0, rfl, hS, h.lt, fun k r hk j u hu => ?_⟩⟩, fun k x e hx he => ?_⟩
  · match k, hk with
    | 0, hk => simp [tys] at hk; subst hk; match j, hu with
      | 0, hu => exact h.cell 0 u hu
      | 1, hu => exact h.cell 1 u hu
      | 2, hu => exact h.cell 2 u hu
      | 3, hu => exact h.cell 3 u hu
      | j + 4, hu => simp [Ty.row] at hu
    | 1, hk => simp [tys] at hk; subst hk; match j, hu with
      | 0, hu => exact h.cell 4 u hu
      | 1, hu => exact h.cell 5 u hu
      | 2, hu => exact h.cell 6 u hu
      | 3, hu => exact h.cell 7 u hu
      | j + 4, hu => simp [Ty.row] at hu
    | 2, hk => simp [tys] at hk; subst hk; match j, hu with
      | 0, hu => exact h.cell 8 u hu
      | 1, hu => exact h.cell 9 u hu
      | 2, hu => exact h.cell 10 u hu
      | 3, hu => exact h.cell 11 u hu
      | j + 4, hu => simp [Ty.row] at hu
    | k + 3, hk => simp [tys] at hk
  · match k, hx, he with
    | 0, hx, he => simp [tys] at hx he; subst hx he; exact TR.nil 1 _ _
    | 1, hx, he => simp [tys] at hx he; subst hx he; exact h1
    | 2, hx, he => simp [tys] at hx he; subst hx he; exact h2
    | k + 3, hx, _ => simp [tys] at hx

theorem Blk.ten {w : World} {b : Nat} {t : TypeId} {x0 x1 x2 x3 x4 x5 x6 x7 x8 x9 : Value} (h : Blk w b [x0, x1, x2, x3, x4, x5, x6, x7, x8, x9] t) :
    (w.cell? ⟨b, 0, none⟩ = some x0 ∧ w.cell? ⟨b, 1, none⟩ = some x1 ∧ w.cell? ⟨b, 2, none⟩ = some x2 ∧ w.cell? ⟨b, 3, none⟩ = some x3 ∧ w.cell? ⟨b, 4, none⟩ = some x4 ∧ w.cell? ⟨b, 5, none⟩ = some x5 ∧ w.cell? ⟨b, 6, none⟩ = some x6 ∧ w.cell? ⟨b, 7, none⟩ = some x7 ∧ w.cell? ⟨b, 8, none⟩ = some x8 ∧ w.cell? ⟨b, 9, none⟩ = some x9) :=
  ⟨h.cell 0 _ rfl, h.cell 1 _ rfl, h.cell 2 _ rfl, h.cell 3 _ rfl, h.cell 4 _ rfl, h.cell 5 _ rfl, h.cell 6 _ rfl, h.cell 7 _ rfl, h.cell 8 _ rfl, h.cell 9 _ rfl⟩

set_option maxRecDepth 100000 in
set_option maxHeartbeats 6400000 in
theorem generated (b m n : Nat) (w : World) (hT : Tp w b m) (hm : m + 8 * n ≤ 100000) :
    Calls Tryd.prog 8 #[.pointer (some ⟨b, 0, none⟩), .int .i64 n] w fun e w' => ∃ v' l, e = .returned v' ∧ l.length = n ∧ GenO l ∧ Gr (fun S w e (x : Op31) => TR 1 S w e x.ty.args) Op31.row 10 33 (w.heap.size ≤ ·) w.heap.size w' v' l ∧ Tp w' b (m + 8 * n) ∧ Kept [b] w w' := by
  have hbl := hT.lt
  obtain ⟨ia, za, hia, hza0, hza1, hza2, hza3⟩ := info_act
  go_enter Tryd.func8, Tryd.ntmps8
  go_wp2_with (first
    | (go_at_call_of 21 (Value.string { data := #[73, 110, 116] }); refine Calls.mono (namedT sInt _) ?_; rintro e w1 ⟨rfl, hk1⟩)
    | (go_at_call_of 21 (Value.string { data := #[66, 111, 111, 108] }); refine Calls.mono (namedT sBool _) ?_; rintro e w2 ⟨rfl, hk2⟩))
  obtain ⟨W0, hW0⟩ : ∃ W0 : World, W0 = (w2.alloc (.cells #[.int .i64 2, .string sBool, .int .i64 0, .slice none 0 0] 31)).alloc (.cells #[.int .i64 3, .string ⟨#[]⟩, .int .i64 0, .slice none 0 0, .int .i64 3, .string ⟨#[]⟩, .int .i64 0, .slice (some ⟨w1.heap.size, 0, none⟩) 1 1, .int .i64 3, .string ⟨#[]⟩, .int .i64 0, .slice (some ⟨w2.heap.size, 0, none⟩) 1 1] 31) := ⟨_, rfl⟩
  have hs1 := hk1.size
  have hs2 := hk2.size
  simp only [World.size_alloc] at hs2
  have hb1 : Blk W0 w1.heap.size [.int .i64 2, .string sInt, .int .i64 0, .slice none 0 0] 31 := by rw [hW0]; exact ((Blk.new w1 _ _).kept hk2 (by simp)).kept (((Kept.refl [] w2).alloc _).alloc _) (by simp)
  have hb2 : Blk W0 w2.heap.size [.int .i64 2, .string sBool, .int .i64 0, .slice none 0 0] 31 := by rw [hW0]; exact Blk.old w2 _ _ _
  have hb3 : Blk W0 (w2.heap.size + 1) [.int .i64 3, .string ⟨#[]⟩, .int .i64 0, .slice none 0 0, .int .i64 3, .string ⟨#[]⟩, .int .i64 0, .slice (some ⟨w1.heap.size, 0, none⟩) 1 1, .int .i64 3, .string ⟨#[]⟩, .int .i64 0, .slice (some ⟨w2.heap.size, 0, none⟩) 1 1] 31 := by rw [hW0]; exact halloc_new _ _ _ (by simp)
  have HTY : Hid (Rd (fun S w e (x : Ty) => TR 1 S w e x.args) Ty.row 4 (w.heap.size ≤ ·) W0 (.slice (some ⟨w2.heap.size + 1, 0, none⟩) 3 3) tys) :=
    Lib.hid (tys_rd hb3 (by omega) ((TR.good 1).mono (one_ty sInt hb1) (fun y _ hy => by omega)) ((TR.good 1).mono (one_ty sBool hb2) (fun y _ hy => by omega)))
  have hk0 : Kept [] w W0 := by rw [hW0]; exact (((hk1.alloc _).trans hk2).alloc _).alloc _
  have hT0 := hT.kept hk0 (by simp)
  rw [← hW0]
  clear hW0 hb1 hb2 hb3 hk1 hk2 hT
  obtain ⟨sb, hsb⟩ : ∃ sb, sb = w2.heap.size + 1 := ⟨_, rfl⟩
  rw [← hsb] at HTY ⊢
  clear hsb
  have HTY := Lib.hid (HTY.out.mono (TR.goodAt 1 Ty.args) (S' := fun y => w.heap.size ≤ y ∧ y < W0.heap.size) (fun y hy h => ⟨h, hy⟩))
  go_loopw [6, 7] (fun v i wr => ∃ (j : Nat) (l : List Op31), j ≤ n ∧ i = .int .i64 j ∧ l.length = j ∧ GenO l ∧ Hid (Gr (fun S w e (x : Op31) => TR 1 S w e x.ty.args) Op31.row 10 33 (w.heap.size ≤ ·) W0.heap.size wr v l) ∧ Tp wr b (m + 8 * j) ∧ Kept [b] W0 wr) (fun _ i _ => n - (intOf i).toNat)
  case atStart => exact ⟨0, [], Nat.zero_le _, rfl, rfl, fun x hx => by simp at hx, Gr.nil _ _ _, hT0, Kept.refl _ _⟩
  case round =>
    obtain ⟨j, l, hj, rfl, hl, hg, hgr, hT, hk⟩ := hrel
    by_cases hlt : j < n
    · obtain ⟨wo, hwo⟩ : ∃ wo : World, wo = wr := ⟨_, rfl⟩
      subst hwo
      have hq := Kept.refl [b] wo
      have hl' : l.length = j := hl
      have HL := Lib.hid hl
      clear hl hl'
      go_upto_region 7 with (first
        | (have _h := hp5u; go_at_call_of 20 (Value.int IntKind.i64 3); refine Calls.mono (tapeNext b _ _ _ (by exact hT) (by omega) (by omega)) ?_; rintro e w9 ⟨p6, rfl, hp6l, _, hp6u, hT, hk9⟩; have hp6u := hp6u (by omega); have hq := hq.trans hk9; obtain ⟨k6, rfl⟩ : ∃ k : Nat, p6 = (k : Int) := ⟨p6.toNat, by omega⟩; have hk6 : k6 < 3 := (by omega); obtain ⟨ty, ht, htm⟩ := tys_get hk6; obtain ⟨ra, rc, re, _, _, ro⟩ := (Rd.kept (TR.goodAt 1 Ty.args) HTY.out (hk.trans hq) (by simp; omega)).form; obtain ⟨rb, roff, rx, _, _, rr⟩ := ro.resolve_left (by simp [tys]); subst rx; obtain ⟨rfl, rfl⟩ : sb = rb ∧ 0 = roff := (by simpa using (Value.slice.inj re).1); obtain ⟨te, tr, _, tv⟩ := rr k6 ty ht; obtain ⟨tk, tn, ti, ta⟩ := ty; obtain ⟨qa, qc, rfl, _⟩ := tv.form; simp only [Ty.row, Ty.kind, Ty.name, Ty.index, Ty.args, Nat.zero_add] at tr tv; have z0 : w9.cell? ⟨sb, k6 * 4, none⟩ = some (.int .i64 tk) := tr 0 _ rfl; have z1 : w9.cell? ⟨sb, k6 * 4 + 1, none⟩ = some (.string tn) := tr 1 _ rfl; have z2 : w9.cell? ⟨sb, k6 * 4 + 2, none⟩ = some (.int .i64 ti) := tr 2 _ rfl; have z3 : w9.cell? ⟨sb, k6 * 4 + 3, none⟩ = some (.slice qa ta.length qc) := tr 3 _ rfl; have HTV := Lib.hid tv; have HTM := Lib.hid htm; clear ro rr re tr tv ht htm)
        | (have _h := hp4u; go_at_call_of 20 (Value.int IntKind.i64 9); refine Calls.mono (tapeNext b _ _ _ (by exact hT) (by omega) (by omega)) ?_; rintro e w8 ⟨p5, rfl, hp5l, _, hp5u, hT, hk8⟩; have hp5u := hp5u (by omega); have hq := hq.trans hk8)
        | (have _h := hp3u; go_at_call_of 20 (Value.int IntKind.i64 6); refine Calls.mono (tapeNext b _ _ _ (by exact hT) (by omega) (by omega)) ?_; rintro e w7 ⟨p4, rfl, hp4l, _, hp4u, hT, hk7⟩; have hp4u := hp4u (by omega); have hq := hq.trans hk7)
        | (have _h := hp2u; go_at_call_of 20 (Value.int IntKind.i64 3); refine Calls.mono (tapeNext b _ _ _ (by exact hT) (by omega) (by omega)) ?_; rintro e w6 ⟨p3, rfl, hp3l, _, hp3u, hT, hk6⟩; have hp3u := hp3u (by omega); have hq := hq.trans hk6)
        | (have _h := hp1u; go_at_call_of 20 (Value.int IntKind.i64 8); refine Calls.mono (tapeNext b _ _ _ (by exact hT) (by omega) (by omega)) ?_; rintro e w5 ⟨p2, rfl, hp2l, _, hp2u, hT, hk5⟩; have hp2u := hp2u (by omega); have hq := hq.trans hk5)
        | (go_at_call_of 20 (Value.int IntKind.i64 6); refine Calls.mono (tapeNext b _ _ _ (by exact hT) (by omega) (by omega)) ?_; rintro e w4 ⟨p1, rfl, hp1l, _, hp1u, hT, hk4⟩; have hp1u := hp1u (by omega); have hq := hq.trans hk4))
      clear z0 z1 z2 z3
      go_upto_region 9 with (go_at_call_of 20 (Value.int IntKind.i64 4); refine Calls.mono (tapeNext b _ _ _ (by exact hT.kept ((Kept.refl [] _).alloc _) (by simp)) (by omega) (by omega)) ?_; rintro e w10 ⟨p7, rfl, hp7l, _, _, hT, hk10⟩; have HA := Lib.hid ((Blk.new w9 [.int .i64 p1, .int .i64 (1 + p2), .int .i64 (1 + p3), .int .i64 (1 + p4), .int .i64 0, .int .i64 (1 + p5), .int .i64 tk, .string tn, .int .i64 ti, .slice qa ta.length qc] 33).kept hk10 (by have := hk.size; have := hq.size; have := hk0.size; simp; omega)); have hk10 := ((Kept.refl [b] w9).alloc (.cells (List.toArray [.int .i64 p1, .int .i64 (1 + p2), .int .i64 (1 + p3), .int .i64 (1 + p4), .int .i64 0, .int .i64 (1 + p5), .int .i64 tk, .string tn, .int .i64 ti, .slice qa ta.length qc]) 33)).trans hk10)
      · have HKF : Hid (∀ w', Kept [b] w10 w' → w'.cell? ⟨w9.heap.size, 3, none⟩ = some (.int .i64 (1 + p4))) := Lib.hid (fun w' k => (HA.out.kept k (by have := hk.size; have := hq.size; have := hk0.size; simp; omega)).cell 3 _ rfl)
        go_region_held3 (fun w' => w'.cell? ⟨w9.heap.size, 3, none⟩ = some (.int .i64 (1 + p4))) (first | with_reducible exact HKF.out _ hk11 | with_reducible exact HKF.out _ ((Kept.refl [b] w10).drew) | exact (HA11.out.set 4 _).cell 3 _ rfl)
          (first
            | (go_at_call 20; (refine Calls.mono (tapeNext b _ _ _ (by exact hT.kept ((Kept.refl [] _).drew) (by simp)) (by omega) (by omega)) ?_; rintro e w11 ⟨p8, rfl, hp8l, _, hp8u, hT, hk11⟩; have hp8u := hp8u (by omega); have hk11 := ((Kept.refl [b] w10).drew).trans hk11; have HA11 := Lib.hid (HA.out.kept hk11 (by have := hk.size; have := hq.size; have := hk0.size; simp; omega)); have e4 := HA11.out.cell 4 _ rfl; have f4 := HA11.out.frozen 4; have hw8 : IntKind.i64.wrap (1 + p4 + p8) = 1 + p4 + p8 := IntWalk.i64_in _ (by omega))))
        go_upto_region 9 with (fail)
        have hbA : b < w9.heap.size := by have := hk.size; have := hq.size; have := hk0.size; omega
        obtain ⟨Wf, hWf⟩ : ∃ Wf : World, Wf = w11.setCell ⟨w9.heap.size, 4, none⟩ (.int .i64 (1 + p4 + p8)) := ⟨_, rfl⟩
        have HAF : Hid (Blk Wf w9.heap.size [.int .i64 p1, .int .i64 (1 + p2), .int .i64 (1 + p3), .int .i64 (1 + p4), .int .i64 (1 + p4 + p8), .int .i64 (1 + p5), .int .i64 tk, .string tn, .int .i64 ti, .slice qa ta.length qc] 33) := by rw [hWf]; exact HA11.out.set 4 _
        have HTF : Hid (Tp Wf b (m + 8 * (j + 1))) := by rw [hWf]; exact (hT.kept ((Kept.refl [w9.heap.size] w11).setCell (by simp) _) (by simp; omega)).more (by omega)
        have hkF : Kept [b] w9 Wf := by rw [hWf]; exact ((hk10.trans hk11).trans' ((Kept.refl [w9.heap.size] w11).setCell (by simp) _) (by simp))
        rw [← hWf]
        clear hWf
        obtain ⟨q0', q1', q2', q3', q4', q5', q6', q7', q8', q9'⟩ := HAF.out.ten
        have hkW : Kept [b] wo Wf := hq.trans hkF
        obtain ⟨es, n1, n2, n3⟩ := hgr.out
        have hlen : (List.zipWith Op31.row l es).length = j := by rw [zip_len n1]; exact HL.out
        have n2lt := n2.lt
        have NN := Lib.hid (n2.kept hkW (fun y hy => by have := n2lt y hy; have := hk0.size; simp; omega))
        have N1 := Lib.hid n1
        have N3 := Lib.hid n3
        have hsW : W0.heap.size ≤ Wf.heap.size := by have h2 := hk.size; have h3 := hkW.size; omega
        clear n1 n2 n3
        go_wp2_with (first
          | (refine wpList_append1 (.tmp 51) (.tmp 52) 27 33 rfl rfl rfl rfl rfl ia za 10 104 Tryd.underlying27 hia hza0 hza1 hza2 hza3 (by decide) (by decide) W0.heap.size _ _ (fun _ => rfl) (fun _ => rfl) [.int .i64 p1, .int .i64 (1 + p2), .int .i64 (1 + p3), .int .i64 (1 + p4), .int .i64 (1 + p4 + p8), .int .i64 (1 + p5), .int .i64 tk, .string tn, .int .i64 ti, .slice qa ta.length qc] rfl rfl (by simp [Value.oneCell']) NN.out (by rw [hlen]; omega) (by rw [hlen]; omega) (by omega) ?_; intro v5 wz ho5 hk5 hl5; have HO5 := Lib.hid ho5; have HK5 := Lib.hid hk5; have HL5 := Lib.hid hl5; clear ho5 hk5 hl5))
        go_roundw
        case rel =>
          have hk5 := HK5.out u6.ownBlock.toList (by intro y hy; simp [hy])
          refine ⟨j + 1, l ++ [⟨p1, 1 + p2, 1 + p3, 1 + p4, 1 + p4 + p8, 1 + p5, .mk tk tn ti ta⟩], by omega, by go_num, by simp [HL.out], hg.snoc (fun x hx => ?_), ?_, ?_, ?_⟩
          · simp at hx
            subst hx
            refine ⟨by simpa using hp1l, ?_, ?_, ?_, ?_, ?_, ?_, ?_, ?_, ?_, ?_, HTM.out⟩ <;> first | exact .inl rfl | (simp only; omega)
          · exact Gr.snoc (x := ⟨p1, 1 + p2, 1 + p3, 1 + p4, 1 + p4 + p8, 1 + p5, .mk tk tn ti ta⟩) (TR.goodAt 1 (fun x : Op31 => x.ty.args)) N1.out (fun k y e hy he => (TR.good 1).kept (N3.out k y e hy he) hkW (by simp; omega)) ((TR.good 1).mono ((TR.good 1).kept HTV.out hkF (by simp; omega)) (fun y _ hyw => ⟨hyw.1, fun e => by have := (n2lt y e).1; have := hyw.2; omega⟩)) HO5.out HK5.out HL5.out
          · exact HTF.out.kept hk5 (fun y hy => by have := (n2lt y (by simpa using hy)).1; have := hk0.size; omega)
          · exact (hk.trans hkW).trans' hk5 (fun y hy => .inr (n2lt y (by simpa using hy)).1)
        case measure => simp [intOf]; omega
      · have hbA : b < w9.heap.size := by have := hk.size; have := hq.size; have := hk0.size; omega
        obtain ⟨Wf, hWf⟩ : ∃ Wf : World, Wf = w10 := ⟨_, rfl⟩
        have HAF : Hid (Blk Wf w9.heap.size [.int .i64 p1, .int .i64 (1 + p2), .int .i64 (1 + p3), .int .i64 (1 + p4), .int .i64 (0), .int .i64 (1 + p5), .int .i64 tk, .string tn, .int .i64 ti, .slice qa ta.length qc] 33) := by rw [hWf]; exact HA.out
        have HTF : Hid (Tp Wf b (m + 8 * (j + 1))) := by rw [hWf]; exact hT.more (by omega)
        have hkF : Kept [b] w9 Wf := by rw [hWf]; exact hk10
        rw [← hWf]
        clear hWf
        obtain ⟨q0', q1', q2', q3', q4', q5', q6', q7', q8', q9'⟩ := HAF.out.ten
        have hkW : Kept [b] wo Wf := hq.trans hkF
        obtain ⟨es, n1, n2, n3⟩ := hgr.out
        have hlen : (List.zipWith Op31.row l es).length = j := by rw [zip_len n1]; exact HL.out
        have n2lt := n2.lt
        have NN := Lib.hid (n2.kept hkW (fun y hy => by have := n2lt y hy; have := hk0.size; simp; omega))
        have N1 := Lib.hid n1
        have N3 := Lib.hid n3
        have hsW : W0.heap.size ≤ Wf.heap.size := by have h2 := hk.size; have h3 := hkW.size; omega
        clear n1 n2 n3
        go_wp2_with (first
          | (refine wpList_append1 (.tmp 51) (.tmp 52) 27 33 rfl rfl rfl rfl rfl ia za 10 104 Tryd.underlying27 hia hza0 hza1 hza2 hza3 (by decide) (by decide) W0.heap.size _ _ (fun _ => rfl) (fun _ => rfl) [.int .i64 p1, .int .i64 (1 + p2), .int .i64 (1 + p3), .int .i64 (1 + p4), .int .i64 (0), .int .i64 (1 + p5), .int .i64 tk, .string tn, .int .i64 ti, .slice qa ta.length qc] rfl rfl (by simp [Value.oneCell']) NN.out (by rw [hlen]; omega) (by rw [hlen]; omega) (by omega) ?_; intro v5 wz ho5 hk5 hl5; have HO5 := Lib.hid ho5; have HK5 := Lib.hid hk5; have HL5 := Lib.hid hl5; clear ho5 hk5 hl5))
        go_roundw
        case rel =>
          have hk5 := HK5.out u6.ownBlock.toList (by intro y hy; simp [hy])
          refine ⟨j + 1, l ++ [⟨p1, 1 + p2, 1 + p3, 1 + p4, 0, 1 + p5, .mk tk tn ti ta⟩], by omega, by go_num, by simp [HL.out], hg.snoc (fun x hx => ?_), ?_, ?_, ?_⟩
          · simp at hx
            subst hx
            refine ⟨by simpa using hp1l, ?_, ?_, ?_, ?_, ?_, ?_, ?_, ?_, ?_, ?_, HTM.out⟩ <;> first | exact .inl rfl | (simp only; omega)
          · exact Gr.snoc (x := ⟨p1, 1 + p2, 1 + p3, 1 + p4, 0, 1 + p5, .mk tk tn ti ta⟩) (TR.goodAt 1 (fun x : Op31 => x.ty.args)) N1.out (fun k y e hy he => (TR.good 1).kept (N3.out k y e hy he) hkW (by simp; omega)) ((TR.good 1).mono ((TR.good 1).kept HTV.out hkF (by simp; omega)) (fun y _ hyw => ⟨hyw.1, fun e => by have := (n2lt y e).1; have := hyw.2; omega⟩)) HO5.out HK5.out HL5.out
          · exact HTF.out.kept hk5 (fun y hy => by have := (n2lt y (by simpa using hy)).1; have := hk0.size; omega)
          · exact (hk.trans hkW).trans' hk5 (fun y hy => .inr (n2lt y (by simpa using hy)).1)
        case measure => simp [intOf]; omega
    · have hjn : j = n := by omega
      subst hjn
      go_wp2
      go_ret
      exact ⟨_, l, rfl, hl, hg, hgr.out.mono (TR.goodAt 1 (fun x : Op31 => x.ty.args)) hk0.size (fun _ _ h => h), hT, hk0.nil.trans hk⟩
end Go.Proofs.YtkldomkooleecaaDoor
