/- Generated operations on a graph: the walk. -/
import Derived.Test.YtkldomkooleecaaGreatDoorGen32
namespace Go.Proofs.YtkldomkooleecaaGreatDoor
open Go.RowKit

theorem all_snoc {α : Type} {P : α → Prop} {l : List α} {x : α} (h : ∀ y ∈ l, P y) (hx : P x) : ∀ y ∈ l ++ [x], P y := fun y hy => by
  rcases List.mem_append.1 hy with hy | hy
  · exact h y hy
  · simp at hy; exact hy ▸ hx
/-- The dependencies of an operation in the making. -/
abbrev DG (A : Nat) (w : World) (v : Value) (l : List Dp) : Prop := Gr (fun S w e (x : Dp) => DR 1 S w e x) Dp.row 7 45 (A < ·) (A + 1) w v l

theorem dpush {A b mm L : Nat} {wo wi w3 w5 : World} {sv v5 x0 x1 x3 : Value} {dl : List Dp} {es : List Value} {s1 s2 : ByteArray} {o : Obj} {t : TypeId}
    (h1 : s1 ∈ fns) (h2 : s2 ∈ tns) (hA : Blk wi A [x0, x1, sv, x3] t) (hb : b < A) (hwo : wo.heap.size ≤ A) (hko : Kept [b] wo wi) (hgl : ∀ y, sv.ownBlock = some y → A + 1 ≤ y ∧ y < wi.heap.size) (n1 : es.length = dl.length)
    (n3 : ∀ (k : Nat) (x : Dp) (e : Value), dl[k]? = some x → es[k]? = some e → DR 1 (fun y => A < y ∧ sv.ownBlock ≠ some y) wi e x) (hq : Kept [b] wi w3) (hT3 : Tp w3 b mm) (ht : TR 1 (wi.heap.size ≤ ·) w3 (.slice (some ⟨L, 0, none⟩) 1 1) [named s2])
    (ho5 : Own w5 (A + 1) 45 7 v5 (List.zipWith Dp.row dl es ++ [[.string s1, .int .i64 3, .string ⟨#[]⟩, .int .i64 0, .slice (some ⟨L, 0, none⟩) 1 1, .int .i64 0, .slice none 0 0]]))
    (hk5 : ∀ M, (∀ x, sv.ownBlock = some x → x ∈ M) → Kept M (w3.alloc o) w5) (hl5 : v5.ownBlock = sv.ownBlock ∨ ∃ g, v5.ownBlock = some g ∧ (w3.alloc o).heap.size ≤ g) :
    ∃ (x : Dp) (v' : Value), x ∈ nine ∧ Hid (Blk (w5.setCell ⟨A, 2, none⟩ v5) A [x0, x1, v', x3] t) ∧ Hid (DG A (w5.setCell ⟨A, 2, none⟩ v5) v' (dl ++ [x])) ∧ Tp (w5.setCell ⟨A, 2, none⟩ v5) b mm ∧ Kept [b] wo (w5.setCell ⟨A, 2, none⟩ v5) ∧ A < (w5.setCell ⟨A, 2, none⟩ v5).heap.size := by
  have hAl := hA.lt
  have hka : Kept [b] w3 (w3.alloc o) := (Kept.refl _ _).alloc _
  have hkx := hq.trans hka
  have hg5 : DG A w5 v5 (dl ++ [dpN s1 s2]) :=
    Gr.snoc (x := dpN s1 s2) (e := .tuple #[.slice (some ⟨L, 0, none⟩) 1 1, .slice none 0 0]) (DR.good 1) n1 (fun i x e hx he => (DR.good 1).kept (n3 i x e hx he) hkx (by simp; omega))
      ⟨_, _, rfl, (TR.good 1).mono ((TR.good 1).kept ht ((Kept.refl [] w3).alloc o) (by simp)) (fun y _ hy => ⟨by omega, fun e => by have := (hgl y e).2; omega⟩), Reads.nil _ _ _, by simp [dpN]⟩ ho5 hk5 hl5
  have hk6 : Kept (b :: sv.ownBlock.toList) (w3.alloc o) w5 := hk5 _ (by intro y hy; simp [hy])
  have hk10 : Kept (b :: sv.ownBlock.toList) wi w5 := (hkx.mono (by simp)).trans hk6
  have hno : A ∉ b :: sv.ownBlock.toList := fun hy => by
    rcases List.mem_cons.1 hy with e | hy
    · omega
    · have := (hgl A (by simpa using hy)).1; omega
  have hks : Kept [A] w5 (w5.setCell ⟨A, 2, none⟩ v5) := (Kept.refl _ _).setCell (by simp) _
  have hb5 := (hA.kept hk10 hno).set 2 v5
  refine ⟨dpN s1 s2, v5, nine_mem h1 h2, hb5, Gr.kept (DR.good 1) hg5 hks (fun y hy e => ?_) (by simp), ?_, ?_, hb5.lt⟩
  · simp at hy; subst hy
    have := (hg5.lt _ e).1
    omega
  · exact ((hT3.kept ((Kept.refl [] w3).alloc o) (by simp)).kept (hk5 sv.ownBlock.toList (by intro y hy; simp [hy])) (fun y hy => by have := (hgl y (by simpa using hy)).1; omega)).kept hks (by simpa using hb)
  · refine (hko.trans' hk10 (fun y hy => ?_)).trans' hks (fun y hy => .inr (by simp at hy; omega))
    rcases List.mem_cons.1 hy with e | hy
    · exact .inl (by simp [e])
    · exact .inr (by have := (hgl y (by simpa using hy)).1; omega)

theorem upush {A B b mm : Nat} {wo wi w3 w5 : World} {sv uv v5 x0 x1 : Value} {dl : List Dp} {us : List Int} {u : Int} {o : Obj} {t : TypeId}
    (hA : Blk wi A [x0, x1, sv, uv] t) (hb : b < A) (hwo : wo.heap.size ≤ A) (hko : Kept [b] wo wi) (hB : A < B) (hBs : B ≤ wi.heap.size) (hul : ∀ y, uv.ownBlock = some y → B ≤ y ∧ y < wi.heap.size)
    (hd : DL 1 (fun y => A < y ∧ y < B) wi sv dl) (hq : Kept [b] wi w3) (hT3 : Tp w3 b mm)
    (ho5 : Own w5 B 3 1 v5 (irows us ++ [[.int .i64 u]])) (hk5 : ∀ M, (∀ x, uv.ownBlock = some x → x ∈ M) → Kept M (w3.alloc o) w5) :
    ∃ (v' : Value), Hid (Blk (w5.setCell ⟨A, 3, none⟩ v5) A [x0, x1, sv, v'] t) ∧ Hid (DL 1 (fun y => A < y ∧ y < B) (w5.setCell ⟨A, 3, none⟩ v5) sv dl) ∧ Hid (Own (w5.setCell ⟨A, 3, none⟩ v5) B 3 1 v' (irows (us ++ [u]))) ∧ Tp (w5.setCell ⟨A, 3, none⟩ v5) b mm ∧ Kept [b] wo (w5.setCell ⟨A, 3, none⟩ v5) ∧ A < (w5.setCell ⟨A, 3, none⟩ v5).heap.size ∧ B ≤ (w5.setCell ⟨A, 3, none⟩ v5).heap.size := by
  have hka : Kept [b] w3 (w3.alloc o) := (Kept.refl _ _).alloc _
  have hkx := hq.trans hka
  have hk6 : Kept (b :: uv.ownBlock.toList) (w3.alloc o) w5 := hk5 _ (by intro y hy; simp [hy])
  have hk10 : Kept (b :: uv.ownBlock.toList) wi w5 := (hkx.mono (by simp)).trans hk6
  have hno : A ∉ b :: uv.ownBlock.toList := fun hy => by
    rcases List.mem_cons.1 hy with e | hy
    · omega
    · have := (hul A (by simpa using hy)).1; omega
  have hks : Kept [A] w5 (w5.setCell ⟨A, 3, none⟩ v5) := (Kept.refl _ _).setCell (by simp) _
  have hb5 := (hA.kept hk10 hno).set 3 v5
  refine ⟨v5, hb5, (DL.good 1).kept ((DL.good 1).kept hd hk10 (fun y hy hS => ?_)) hks (by simp), ?_, ?_, ?_, hb5.lt, by have := hk10.size; simp; omega⟩
  · have hS1 : A < y := hS.1
    have hS2 : y < B := hS.2
    rcases List.mem_cons.1 hy with e | hy
    · omega
    · have := (hul y (by simpa using hy)).1; omega
  · rw [irows_append]
    exact ho5.kept hks (fun y hy => by have := (ho5.lt y hy).1; simp; omega)
  · exact ((hT3.kept ((Kept.refl [] w3).alloc o) (by simp)).kept (hk5 uv.ownBlock.toList (by intro y hy; simp [hy])) (fun y hy => by have := (hul y (by simpa using hy)).1; omega)).kept hks (by simpa using hb)
  · refine (hko.trans' hk10 (fun y hy => ?_)).trans' hks (fun y hy => .inr (by simp at hy; omega))
    rcases List.mem_cons.1 hy with e | hy
    · exact .inl (by simp [e])
    · exact .inr (by have := (hul y (by simpa using hy)).1; omega)

set_option maxRecDepth 100000 in
set_option maxHeartbeats 6400000 in
theorem generated (b m n : Nat) (w : World) (hT : Tp w b m) (hm : m + 11 * n ≤ 100000) (hn : n ≤ 100) :
    Calls Tryz.prog 14 #[.pointer (some ⟨b, 0, none⟩), .int .i64 n] w fun e w' => ∃ v' l, e = .returned v' ∧ l.length = n ∧ (∀ x ∈ l, GenA x) ∧ Gr (fun S w e (x : Op32) => AR 1 S w e x) Op32.row 4 35 (w.heap.size ≤ ·) w.heap.size w' v' l ∧ Tp w' b (m + 11 * n) ∧ Kept [b] w w' := by
  have hbl := hT.lt
  obtain ⟨ia, za, hia, hza0, hza1, hza2, hza3⟩ := info_act
  obtain ⟨id0, zd, hid0, hzd0, hzd1, hzd2, hzd3⟩ := info_dep
  obtain ⟨ii, hii0, hii1, hii2, hii3⟩ := info_parts info_int'
  go_enter Tryz.func14, Tryz.ntmps14
  go_upto_block 0 with fail
  obtain ⟨W0, hW0⟩ : ∃ W0 : World, W0 = (w.alloc (.cells #[.string ⟨#[102]⟩, .string ⟨#[103]⟩, .string ⟨#[104]⟩] 9)).alloc (.cells #[.string ⟨#[73, 110, 116]⟩, .string ⟨#[66, 111, 111, 108]⟩, .string ⟨#[68, 111, 103]⟩] 9) := ⟨_, rfl⟩
  obtain ⟨F, hF⟩ : ∃ F, F = w.heap.size := ⟨_, rfl⟩
  have hk0 : Kept [] w W0 := by rw [hW0]; exact ((Kept.refl [] w).alloc _).alloc _
  have hf : Blk W0 F (fns.map .string) 9 := by rw [hW0, hF]; exact Blk.old w [.string ⟨#[102]⟩, .string ⟨#[103]⟩, .string ⟨#[104]⟩] _ _
  have hg : Blk W0 (F + 1) (tns.map .string) 9 := by 
    have h := Blk.new (w.alloc (.cells #[.string ⟨#[102]⟩, .string ⟨#[103]⟩, .string ⟨#[104]⟩] 9)) [.string ⟨#[73, 110, 116]⟩, .string ⟨#[66, 111, 111, 108]⟩, .string ⟨#[68, 111, 103]⟩] 9
    rw [World.size_alloc] at h
    rw [hW0, hF]
    exact h
  have HFN : Hid (∀ k < 3, ∃ s ∈ fns, ∀ W, Kept [b] W0 W → W.cell? ⟨F, k, none⟩ = some (.string s)) := Lib.hid (fun k hk => by
    obtain ⟨s, h1, h2⟩ := fns_get hk
    exact ⟨s, h2, fun W hW => (hf.kept hW (by simp; omega)).cell k _ (by simp [h1])⟩)
  have HTN : Hid (∀ k < 3, ∃ s ∈ tns, ∀ W, Kept [b] W0 W → W.cell? ⟨F + 1, k, none⟩ = some (.string s)) := Lib.hid (fun k hk => by
    obtain ⟨s, h1, h2⟩ := tns_get hk
    exact ⟨s, h2, fun W hW => (hg.kept hW (by simp; omega)).cell k _ (by simp [h1])⟩)
  have hT0 := hT.kept hk0 (by simp)
  rw [← hW0, ← hF]
  have hbF : b < F := by omega
  have HF := Lib.hid hF
  have hs0 := hk0.size
  have HK0 := Lib.hid hk0
  clear hW0 hf hg hT hF hk0 hbl
  go_wp2_with fail
  go_loopg [5, 8] n (fun k v i wr => ∃ (j : Nat) (l : List Op32), k = n - j ∧ j ≤ n ∧ i = .int .i64 j ∧ l.length = j ∧ Hid (∀ x ∈ l, GenA x) ∧ Hid (Gr (fun S w e (x : Op32) => AR 1 S w e x) Op32.row 4 35 (F ≤ ·) W0.heap.size wr v l) ∧ Tp wr b (m + 11 * j) ∧ Kept [b] W0 wr)
  case atStart => exact ⟨0, [], rfl, Nat.zero_le _, rfl, rfl, (fun x hx => by simp at hx), Gr.nil _ _ _, hT0, Kept.refl _ _⟩
  case round =>
    clear hT0
    obtain ⟨j, l, rfl, hj, rfl, hl, hg, hgr, hT, hk⟩ := hrel
    by_cases hlt : j < n
    · obtain ⟨wo, hwo⟩ : ∃ wo : World, wo = wr := ⟨_, rfl⟩
      subst hwo
      have HLEN := Lib.hid hl
      clear hl
      have hbo := hT.lt
      go_wp2_with fail
      refine Calls.mono (tapeNext b _ 6 _ (by exact hT) (by omega) (by omega)) ?_
      rintro e w1 ⟨p1, rfl, hp1, _, hp1', hT1, hk1⟩
      go_wp2_with fail
      refine Calls.mono (tapeNext b _ 10 _ (by exact hT1) (by omega) (by omega)) ?_
      rintro e w2 ⟨p2, rfl, hp2, _, hp2', hT2, hk2⟩
      have hp2' := hp2' (by omega)
      go_wp2_with fail
      refine Calls.mono (tapeNext b _ 3 _ (by exact hT2.kept ((Kept.refl [] _).alloc _) (by simp)) (by omega) (by omega)) ?_
      rintro e w3 ⟨p3, rfl, hp3, _, hp3', hT3, hk3⟩
      have hp3' := hp3' (by omega)
      obtain ⟨A, hA⟩ : ∃ A, A = w2.heap.size := ⟨_, rfl⟩
      have hs2 := (hk1.trans hk2).size
      have HA3 : Hid (Blk w3 A [.int .i64 p1, .int .i64 (1 + p2), .slice none 0 0, .slice none 0 0] 35) := Lib.hid (by rw [hA]; exact (Blk.new w2 _ _).kept hk3 (by simp; omega))
      have hko3 : Kept [b] wo w3 := (((hk1.trans hk2).alloc _).trans hk3)
      rw [← hA]
      have hAo : wo.heap.size ≤ A := by omega
      have hAlt := HA3.out.lt
      have hbA : b < A := by omega
      clear hA hT hT1 hT2 hk1 hk2 hk3 hs2
      go_wp2_with fail
      go_loopg [10] p3.toNat (fun kk q wr => ∃ (q' : Int) (dl : List Dp) (sv : Value), kk = q'.toNat ∧ q = .int .i64 q' ∧ 0 ≤ q' ∧ q' + dl.length ≤ 2 ∧ Hid (∀ x ∈ dl, x ∈ nine) ∧ Hid (Blk wr A [.int .i64 p1, .int .i64 (1 + p2), sv, .slice none 0 0] 35) ∧ Hid (DG A wr sv dl) ∧ Tp wr b (m + 11 * j + 3 + 2 * dl.length) ∧ Kept [b] wo wr ∧ A < wr.heap.size)
      case atStart => exact ⟨p3, [], .slice none 0 0, rfl, rfl, hp3, by simp only [List.length_nil]; omega, fun x hx => by simp at hx, HA3.out, (show DG A w3 _ [] from Gr.nil _ _ _), hT3.more (by simp), hko3, hAlt⟩
      case round =>
        clear HA3 hT3 hko3 hAlt
        obtain ⟨q, dl, sv, rfl, rfl, hq0, hql, hok, HA, HGR, hT, hkd, hsA⟩ := hrel
        obtain ⟨wi, hwi⟩ : ∃ wi : World, wi = wr := ⟨_, rfl⟩
        subst hwi
        by_cases hqp : 0 < q
        · have hkF : Kept [b] W0 wi := hk.trans hkd
          have HKF := Lib.hid hkF
          have HKD := Lib.hid hkd
          have HT := Lib.hid hT
          have hdl : dl.length ≤ 1 := by omega
          clear hkF hkd
          go_upto_block 3 with fail
          go_cut [46] from 27 to 46 (fun _ wx => ∃ (x : Dp) (v5 : Value), x ∈ nine ∧ Hid (Blk wx A [.int .i64 p1, .int .i64 (1 + p2), v5, .slice none 0 0] 35) ∧ Hid (DG A wx v5 (dl ++ [x])) ∧ Tp wx b (m + 11 * j + 3 + 2 * dl.length + 1 + 1) ∧ Kept [b] wo wx ∧ A < wx.heap.size)
          case first =>
            obtain ⟨es, n1, n2, n3⟩ := HGR.out
            have hlen : (List.zipWith Dp.row dl es).length = dl.length := zip_len n1
            have HSV : Hid (∀ y, sv.ownBlock = some y → A + 1 ≤ y ∧ y < wi.heap.size) := Lib.hid n2.lt
            have HN1 : Hid (∀ W, Kept [] wi W → Calls Tryz.prog 30 #[.pointer (some ⟨b, 0, none⟩), .int .i64 3] W fun e w' => ∃ k : Nat, e = .returned (.int .i64 k) ∧ k < 3 ∧ Tp w' b (m + 11 * j + 3 + 2 * dl.length + 1) ∧ Kept [b] wi w') := Lib.hid (fun W hW => by
              refine (tapeNext b _ 3 W (HT.out.kept hW (by simp)) (by omega) (by omega)).mono ?_
              rintro e w' ⟨r, rfl, h0, _, h1, h2, h3⟩
              have h1 := h1 (by omega)
              exact ⟨r.toNat, by rw [Int.toNat_of_nonneg h0], by omega, h2, hW.nil.trans h3⟩)
            have HN2 : Hid (∀ W, Kept [b] wi W → Tp W b (m + 11 * j + 3 + 2 * dl.length + 1) → Calls Tryz.prog 30 #[.pointer (some ⟨b, 0, none⟩), .int .i64 3] W fun e w' => ∃ k : Nat, e = .returned (.int .i64 k) ∧ k < 3 ∧ Tp w' b (m + 11 * j + 3 + 2 * dl.length + 1 + 1) ∧ Kept [b] wi w') := Lib.hid (fun W hW hT => by
              refine (tapeNext b _ 3 W hT (by omega) (by omega)).mono ?_
              rintro e w' ⟨r, rfl, h0, _, h1, h2, h3⟩
              have h1 := h1 (by omega)
              exact ⟨r.toNat, by rw [Int.toNat_of_nonneg h0], by omega, h2, hW.trans h3⟩)
            have HDP : Hid (∀ (f s : ByteArray) W, Kept [b] wi W → Tp W b (m + 11 * j + 3 + 2 * dl.length + 1 + 1) → Calls Tryz.prog 25 #[.string f, .string s] W fun e w' => ∃ L : Nat, e = .returned (.agg #[.string f, .int .i64 3, .string ⟨#[]⟩, .int .i64 0, .slice (some ⟨L, 0, none⟩) 1 1, .int .i64 0, .slice none 0 0]) ∧ TR 1 (wi.heap.size ≤ ·) w' (.slice (some ⟨L, 0, none⟩) 1 1) [named s] ∧ Tp w' b (m + 11 * j + 3 + 2 * dl.length + 1 + 1) ∧ Kept [b] wi w') := Lib.hid (fun f s W hW hT => by
              refine (depT f s W).mono ?_
              rintro e w' ⟨L, rfl, h2, h3⟩
              exact ⟨L, rfl, (TR.good 1).mono h2 (fun y _ hy => by have := hW.size; omega), hT.kept h3 (by simp), hW.trans h3.nil⟩)
            have HAC : Hid (∀ W, Kept [b] wi W → W.cell? ⟨A, 2, none⟩ = some sv ∧ W.frozen? ⟨A, 2, none⟩ = false) := Lib.hid (fun W hW => by
              have h := HA.out.kept hW (by simp; omega)
              exact ⟨h.cell 2 _ rfl, h.frozen 2⟩)
            have HF1 : Hid (∀ k < 3, ∃ s ∈ fns, ∀ W, Kept [b] wi W → W.cell? ⟨F, k, none⟩ = some (.string s)) := Lib.hid (fun k hk => by
              obtain ⟨s, h1, h2⟩ := HFN.out k hk
              exact ⟨s, h1, fun W hW => h2 W (HKF.out.trans hW)⟩)
            have HF2 : Hid (∀ k < 3, ∃ s ∈ tns, ∀ W, Kept [b] wi W → W.cell? ⟨F + 1, k, none⟩ = some (.string s)) := Lib.hid (fun k hk => by
              obtain ⟨s, h1, h2⟩ := HTN.out k hk
              exact ⟨s, h1, fun W hW => h2 W (HKF.out.trans hW)⟩)
            have HLN := Lib.hid hlen
            have N1 := Lib.hid n1
            have N2 := Lib.hid n2
            have N3 := Lib.hid n3
            obtain ⟨a2, f2⟩ := HAC.out wi (Kept.refl _ _)
            have HOB : Hid (∀ y ∈ [b], sv.ownBlock ≠ some y) := Lib.hid (by intro y hy e; have := (n2.lt y e).1; simp at hy; omega)
            have HSO : Hid (A ∉ b :: sv.ownBlock.toList) := Lib.hid (fun hy => by
              rcases List.mem_cons.1 hy with e | hy
              · omega
              · have := (n2.lt A (by simpa using hy)).1; omega)
            clear n1 n2 n3 hlen hT
            go_upto_region 10 with fail
            go_region_law ((first
              | (refine step_append_rows rfl (.tmp 32) (.tmp 44) 33 45 rfl id0 zd 7 104 Tryz.underlying33 hid0 hzd0 hzd1 hzd2 hzd3 (by decide) (A + 1) sv (List.zipWith Dp.row dl es) [[.string s1, .int .i64 3, .string ⟨#[]⟩, .int .i64 0, .slice (some ⟨L, 0, none⟩) 1 1, .int .i64 0, .slice none 0 0]] rfl (N2.out.kept (hkw.alloc _) (by intro y hy hm; exact HOB.out y hm hy)) (fun _ => True) (.slice (some ⟨w3.heap.size, 0, none⟩) 1 1) rfl (rows_lit [[.string s1, .int .i64 3, .string ⟨#[]⟩, .int .i64 0, .slice (some ⟨L, 0, none⟩) 1 1, .int .i64 0, .slice none 0 0]] (halloc_new _ _ _ rfl) (by simp [Value.oneCell']) (by simp)) (by rw [HLN.out]; simp; omega) (by rw [HLN.out]; simp; omega) (by have := hkw.size; simp; omega) ?_; intro v5 w5 ho5 hk5 hl5; obtain ⟨va, N5, vc, rfl⟩ : ∃ a n c, v5 = .slice a n c := (by obtain ⟨a, c, h, _⟩ := ho5.shape; exact ⟨a, _, c, h⟩); have hk10 := ((hkw.alloc _).mono (M' := b :: sv.ownBlock.toList) (by simp)).trans (hk5 (b :: sv.ownBlock.toList) (by intro y hy; simp [hy])); have hb10 := HA.out.kept hk10 HSO.out; have a2 := hb10.cell 2 _ rfl; have f2 := hb10.frozen 2; have HO5 := Lib.hid ho5; have HK5 := Lib.hid hk5; have HL5 := Lib.hid hl5; clear ho5 hk5 hl5 hb10 hk10)
              | (go_simp; go_at_call 25; refine Calls.mono (HDP.out _ _ _ (by exact hkw) (by exact hTw)) ?_; rintro e w3 ⟨L, rfl, htr, hTw, hkw⟩; have HTR := Lib.hid htr; clear htr; obtain ⟨a2, f2⟩ := HAC.out w3 hkw; have aA := fun o => (HAC.out (w3.alloc o) (hkw.alloc o)).1)
              | (have _h := hz1; go_simp; go_at_call 30; refine Calls.mono (HN2.out _ (by exact hkw) (by exact hTw)) ?_; rintro e w2 ⟨k2, rfl, hk2, hTw, hkw⟩; have hki2 : (k2 : Int) < 3 := (by omega); obtain ⟨s2, hs2, hz2⟩ := HF2.out k2 hk2; have c1 := hz1 w2 hkw; have c2 := hz2 w2 hkw; obtain ⟨a2, f2⟩ := HAC.out w2 hkw)
              | (go_simp; go_at_call 30; refine Calls.mono (HN1.out _ (by first | exact Kept.refl _ _ | exact (Kept.refl [] wi).drew)) ?_; rintro e w1 ⟨k1, rfl, hk1, hTw, hkw⟩; have hki1 : (k1 : Int) < 3 := (by omega); obtain ⟨s1, hs1, hz1⟩ := HF1.out k1 hk1; have c1 := hz1 w1 hkw; obtain ⟨a2, f2⟩ := HAC.out w1 hkw)))
            all_goals
              go_wp2_with fail
              go_meet
              exact dpush hs1 hs2 HA.out hbA hAo HKD.out HSV.out N1.out N3.out hkw hTw HTR.out HO5.out HK5.out HL5.out
          case rest =>
            obtain ⟨x, v5, hx, HA2, HG2, hT2, hk2, hs2⟩ := hcut
            clear HA HGR HT HKF HKD hT hsA
            go_wp2_with fail
            go_roundg (q - 1).toNat
            case rel => exact ⟨q - 1, dl ++ [x], v5, rfl, by go_num, by omega, by simp only [List.length_append, List.length_singleton]; omega, all_snoc hok.out hx, HA2.out, HG2.out, hT2.more (by simp only [List.length_append, List.length_singleton]; omega), hk2, hs2⟩
            case measure => omega
        · have hgl := HGR.out.lt
          go_wp2_with fail
          refine Calls.mono (tapeNext b _ 4 _ (by exact hT) (by omega) (by omega)) ?_
          rintro e w4 ⟨p4, rfl, hp4, _, hp4', hT4, hk4⟩
          have hp4' := hp4' (by omega)
          obtain ⟨B, hB⟩ : ∃ B, B = w4.heap.size := ⟨_, rfl⟩
          have HA4 := Lib.hid (HA.out.kept hk4 (by simp; omega))
          have HD4 : Hid (DL 1 (fun y => A < y ∧ y < B) w4 sv dl) := by
            have h1 := Gr.kept (DR.good 1) HGR.out hk4 (by intro y hy e; have := (hgl y e).1; simp at hy; omega) (by simp; omega)
            exact Rd.mono (DR.good 1) (Gr.rd (DR.good 1) (h1.mono (DR.good 1) (Nat.le_refl _) (fun _ _ h => h)) (fun y hy => hy)) (fun y hyl hy => ⟨hy, by rw [hB]; exact hyl⟩)
          have hk4' : Kept [b] wo w4 := hkd.trans hk4
          have hAB : A < B := by rw [hB]; exact HA4.out.lt
          have hBw : B ≤ w4.heap.size := by omega
          have hAw : A < w4.heap.size := by omega
          have HDLN : Hid (dl.length ≤ 2) := Lib.hid (by omega)
          have HOK := Lib.hid hok.out
          clear HA HGR hT hkd hk4 hsA hgl hB
          go_wp2_with fail
          go_loopg [11] p4.toNat (fun kk q wr => ∃ (q' : Int) (us : List Int) (uv : Value), kk = q'.toNat ∧ q = .int .i64 q' ∧ 0 ≤ q' ∧ q' + us.length ≤ 3 ∧ Hid (∀ u ∈ us, 1 ≤ u ∧ u ≤ 100) ∧ Hid (Blk wr A [.int .i64 p1, .int .i64 (1 + p2), sv, uv] 35) ∧ Hid (DL 1 (fun y => A < y ∧ y < B) wr sv dl) ∧ Hid (Own wr B 3 1 uv (irows us)) ∧ Tp wr b (m + 11 * j + 8 + us.length) ∧ Kept [b] wo wr ∧ A < wr.heap.size ∧ B ≤ wr.heap.size)
          case atStart => exact ⟨p4, [], .slice none 0 0, rfl, rfl, hp4, by simp only [List.length_nil]; omega, fun x hx => by simp at hx, HA4.out, HD4.out, Own.nil _ _ _ _, hT4.more (by have := HDLN.out; simp only [List.length_nil]; omega), hk4', hAw, hBw⟩
          case round =>
            clear HA4 HD4 hT4 hk4' hAw hBw
            obtain ⟨q, us, uv, rfl, rfl, hq0, hql, hus, HA, HD, HO, hT, hkd, hsA, hsB⟩ := hrel
            obtain ⟨wi, hwi⟩ : ∃ wi : World, wi = wr := ⟨_, rfl⟩
            subst hwi
            by_cases hqp : 0 < q
            · have HKD := Lib.hid hkd
              have HT := Lib.hid hT
              have husl : us.length ≤ 2 := by omega
              clear hkd
              go_upto_block 5 with fail
              go_cut [62] from 49 to 62 (fun _ wx => ∃ (u : Int) (v' : Value), (1 ≤ u ∧ u ≤ 100) ∧ Hid (Blk wx A [.int .i64 p1, .int .i64 (1 + p2), sv, v'] 35) ∧ Hid (DL 1 (fun y => A < y ∧ y < B) wx sv dl) ∧ Hid (Own wx B 3 1 v' (irows (us ++ [u]))) ∧ Tp wx b (m + 11 * j + 8 + us.length + 1) ∧ Kept [b] wo wx ∧ A < wx.heap.size ∧ B ≤ wx.heap.size)
              case first =>
                have n2 := HO.out
                have hlen : (irows us).length = us.length := irows_length us
                have HUL : Hid (∀ y, uv.ownBlock = some y → B ≤ y ∧ y < wi.heap.size) := Lib.hid n2.lt
                have hwj : IntKind.i64.wrap ((j : Int) + 1) = j + 1 := IntWalk.i64_in _ (by omega)
                have HN1 : Hid (∀ W, Kept [] wi W → Calls Tryz.prog 30 #[.pointer (some ⟨b, 0, none⟩), .int .i64 ((j : Int) + 1)] W fun e w' => ∃ k : Int, e = .returned (.int .i64 k) ∧ 0 ≤ k ∧ k ≤ j ∧ Tp w' b (m + 11 * j + 8 + us.length + 1) ∧ Kept [b] wi w') := Lib.hid (fun W hW => by
                  refine (tapeNext b _ (j + 1) W (HT.out.kept hW (by simp)) (by omega) (by omega)).mono ?_
                  rintro e w' ⟨r, rfl, h0, h9, h1, h2, h3⟩
                  refine ⟨r, rfl, h0, ?_, h2, hW.nil.trans h3⟩
                  by_cases hj0 : 1 < (j : Int) + 1
                  · have := h1 hj0; omega
                  · have := h9 (by omega); omega)
                have HAC : Hid (∀ W, Kept [b] wi W → W.cell? ⟨A, 3, none⟩ = some uv ∧ W.frozen? ⟨A, 3, none⟩ = false) := Lib.hid (fun W hW => by
                  have h := HA.out.kept hW (by simp; omega)
                  exact ⟨h.cell 3 _ rfl, h.frozen 3⟩)
                have HLN := Lib.hid hlen
                have N2 := Lib.hid n2
                obtain ⟨a2, f2⟩ := HAC.out wi (Kept.refl _ _)
                have HOB : Hid (∀ y ∈ [b], uv.ownBlock ≠ some y) := Lib.hid (by intro y hy e; have := (n2.lt y e).1; simp at hy; omega)
                have HSO : Hid (A ∉ b :: uv.ownBlock.toList) := Lib.hid (fun hy => by
                  rcases List.mem_cons.1 hy with e | hy
                  · omega
                  · have := (n2.lt A (by simpa using hy)).1; omega)
                clear n2 hlen hT
                go_upto_region 14 with fail
                go_region_law ((first
                  | (refine step_append_rows rfl (.tmp 54) (.tmp 60) 22 3 rfl ii (.int .i64 0) 1 8 Tryz.underlying22 hii0 hii1 hii2 hii3 rfl (by decide) B uv (irows us) [[.int .i64 (1 + k1)]] rfl (N2.out.kept (hkw.alloc _) (by intro y hy hm; exact HOB.out y hm hy)) (fun _ => True) (.slice (some ⟨w1.heap.size, 0, none⟩) 1 1) rfl (rows_lit [[.int .i64 (1 + k1)]] (halloc_new _ _ _ rfl) (by simp [Value.oneCell']) (by simp)) (by rw [HLN.out]; simp; omega) (by rw [HLN.out]; simp; omega) (by have := hkw.size; simp; omega) ?_; intro v5 w5 ho5 hk5 hl5; obtain ⟨va, N5, vc, rfl⟩ : ∃ a n c, v5 = .slice a n c := (by obtain ⟨a, c, h, _⟩ := ho5.shape; exact ⟨a, _, c, h⟩); have hk10 := ((hkw.alloc _).mono (M' := b :: uv.ownBlock.toList) (by simp)).trans (hk5 (b :: uv.ownBlock.toList) (by intro y hy; simp [hy])); have hb10 := HA.out.kept hk10 HSO.out; have a2 := hb10.cell 3 _ rfl; have f2 := hb10.frozen 3; have HO5 := Lib.hid ho5; have HK5 := Lib.hid hk5; have HL5 := Lib.hid hl5; clear ho5 hk5 hl5 hb10 hk10)
                  | (go_simp; go_at_call 30; refine Calls.mono (HN1.out _ (by first | exact Kept.refl _ _ | exact (Kept.refl [] wi).drew)) ?_; rintro e w1 ⟨k1, rfl, hk1, hk1j, hTw, hkw⟩; have hw1 : IntKind.i64.wrap (1 + k1) = 1 + k1 := (IntWalk.i64_in _ (by omega)); obtain ⟨a2, f2⟩ := HAC.out w1 hkw; have aA := fun o => (HAC.out (w1.alloc o) (hkw.alloc o)).1)))
                all_goals
                  go_wp2_with fail
                  go_meet
                  obtain ⟨v', r1, r2, r3, r4, r5, r6, r7⟩ := upush (u := 1 + k1) HA.out hbA hAo HKD.out hAB hsB HUL.out HD.out hkw hTw HO5.out HK5.out
                  exact ⟨1 + k1, v', ⟨by omega, by omega⟩, r1, r2, r3, r4, r5, r6, r7⟩
              case rest =>
                obtain ⟨u, v5, hu, HA2, HD2, HO2, hT2, hk2, hs2, hs3⟩ := hcut
                clear HA HD HO HT HKD hT hsA hsB
                go_wp2_with fail
                go_roundg (q - 1).toNat
                case rel => exact ⟨q - 1, us ++ [u], v5, rfl, by go_num, by omega, by simp only [List.length_append, List.length_singleton]; omega, all_snoc hus.out hu, HA2.out, HD2.out, HO2.out, hT2.more (by simp only [List.length_append, List.length_singleton]; omega), hk2, hs2, hs3⟩
                case measure => omega
            · obtain ⟨⟨q0, q1, q2, q3⟩, _⟩ := HA.out.four
              obtain ⟨sa, sc, rfl, _⟩ := HD.out.form
              obtain ⟨ua, uc, rfl, _⟩ := HO.out.rows'.ints
              obtain ⟨es, n1, n2, n3⟩ := hgr.out
              have hlen : (List.zipWith Op32.row l es).length = j := by rw [zip_len n1]; exact HLEN.out
              have n2lt := n2.lt
              have hFW : F ≤ W0.heap.size := (by have := HF.out; omega)
              have NN := Lib.hid (n2.kept hkd (fun y hy => by have := n2lt y hy; simp; omega))
              have N1 := Lib.hid n1
              have N3 := Lib.hid n3
              have hsd := hkd.size
              have hsk := hk.size
              clear n1 n2 n3
              go_wp2_with (first
                | (refine wpList_append1 (.tmp 63) (.tmp 64) 32 35 rfl rfl rfl rfl rfl ia za 4 64 Tryz.underlying32 hia hza0 hza1 hza2 hza3 (by decide) (by decide) W0.heap.size _ _ (fun _ => rfl) (fun _ => rfl) [.int .i64 p1, .int .i64 (1 + p2), .slice sa dl.length sc, .slice ua us.length uc] rfl rfl (by simp [Value.oneCell']) NN.out (by rw [hlen]; omega) (by rw [hlen]; omega) (by omega) ?_; intro v5 w10 ho5 hk5 hl5; have HO5 := Lib.hid ho5; have HK5 := Lib.hid hk5; have HL5 := Lib.hid hl5; clear ho5 hk5 hl5))
              go_roundg (n - (j + 1))
              case rel =>
                have hk5 := HK5.out u5.ownBlock.toList (by intro y hy; simp [hy])
                have hF := HF.out
                refine ⟨j + 1, l ++ [⟨p1, 1 + p2, dl, us⟩], rfl, by omega, by go_num, by simp [HLEN.out], all_snoc hg.out ⟨HOK.out, HDLN.out, by simp only; omega, hus.out⟩, ?_, ?_, ?_⟩
                · exact Gr.snoc (x := ⟨p1, 1 + p2, dl, us⟩) (e := .tuple #[.slice sa dl.length sc, .slice ua us.length uc]) (AR.good 1) N1.out (fun k y e hy he => (AR.good 1).kept (N3.out k y e hy he) hkd (by simp; omega))
                    ⟨_, _, rfl, (DL.good 1).mono HD.out (fun y _ hy => ⟨by omega, fun e => by have := (n2lt y e).2; omega⟩), HO.out.rows'.mono (fun y _ hy => ⟨by omega, fun e => by have := (n2lt y e).2; omega⟩)⟩ HO5.out HK5.out HL5.out
                · exact (hT.kept hk5 (fun y hy => by have := (n2lt y (by simpa using hy)).1; omega)).more (by omega)
                · exact (hk.trans hkd).trans' hk5 (fun y hy => .inr (n2lt y (by simpa using hy)).1)
              case measure => omega
    · go_wp2
      go_ret
      have hjn : j = n := by omega
      subst hjn
      have := HF.out
      exact ⟨_, l, rfl, hl, hg.out, hgr.out.mono (AR.good 1) (by omega) (fun y _ hy => by omega), hT, HK0.out.nil.trans hk⟩
end Go.Proofs.YtkldomkooleecaaGreatDoor
