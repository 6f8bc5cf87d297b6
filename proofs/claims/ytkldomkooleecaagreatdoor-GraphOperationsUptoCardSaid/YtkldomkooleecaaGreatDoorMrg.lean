/- Walks: dependencies merged (inference.MergeDeps). -/
import Derived.Test.YtkldomkooleecaaGreatDoorMrgP
import Derived.Test.YtkldomkooleecaaGreatDoorGraph
namespace Go.Proofs.YtkldomkooleecaaGreatDoor
open Go.RowKit Go.Maps Go.MapKept Go.Sort

theorem Blk.one {w : World} {b : Nat} {t : TypeId} {x0 : Value} (h : Blk w b [x0] t) : w.cell? ⟨b, 0, none⟩ = some x0 ∧ w.frozen? ⟨b, 0, none⟩ = false := ⟨h.cell 0 _ rfl, h.frozen 0⟩
theorem info_query2 : (Tryz.prog.info? 88).map (fun i => (i.zero, i.size)) = some (some (.agg #[.string ⟨#[]⟩, .string ⟨#[]⟩]), 2) := by kernel_rfl

/-- What stands between two rounds. -/
structure MSt (dd B0 ob mb : Nat) (w2 wr : World) (l : List Dp) : Prop where
  out : ∃ u, Blk wr ob [u] 33 ∧ Gr (fun S w e (x : Dp) => DR dd S w e x) Dp.row 7 45 (B0 ≤ ·) B0 wr u l
  seen : SeenAt wr mb l
  kept : Kept [ob, mb] w2 wr

theorem MSt.push {dd ob A : Nat} {w2 w7 w3 w5 : World} {u v5 : Value} {l : List Dp} {es2 : List Value} {xf tn : ByteArray} {tk ti xk : Int} {ta : List Ty} {xl : List Int} {qa ra : Option Addr} {qc rc : Nat} {o : Obj}
    (hS : SeenAt w7 (ob + 1) (l ++ [⟨xf, .mk tk tn ti ta, xk, xl⟩])) (hb7 : Blk w7 ob [u] 33) (hgu : ∀ y, u.ownBlock = some y → ob + 2 ≤ y ∧ y < A) (n1 : es2.length = l.length)
    (n3 : ∀ (k : Nat) (x : Dp) (e : Value), l[k]? = some x → es2[k]? = some e → DR dd (fun y => ob + 2 ≤ y ∧ u.ownBlock ≠ some y) w7 e x) (hkk : Kept [ob, ob + 1] w2 w7) (hs2 : w2.heap.size = ob + 2) (hA : ob + 2 ≤ A)
    (hk9 : Kept [] w7 w3) (hq : TR dd (A < ·) w3 (.slice qa ta.length qc) ta) (hr : Reads (A < ·) w3 (.slice ra xl.length rc) 1 (irows xl)) (hxl : xl.length ≤ 1000)
    (ho5 : Own w5 (ob + 2) 45 7 v5 (List.zipWith Dp.row l es2 ++ [[.string xf, .int .i64 tk, .string tn, .int .i64 ti, .slice qa ta.length qc, .int .i64 xk, .slice ra xl.length rc]]))
    (hk5 : ∀ M, (∀ x, u.ownBlock = some x → x ∈ M) → Kept M (w3.alloc o) w5) (hl5 : v5.ownBlock = u.ownBlock ∨ ∃ g, v5.ownBlock = some g ∧ (w3.alloc o).heap.size ≤ g) :
    MSt dd (ob + 2) ob (ob + 1) w2 (w5.setCell ⟨ob, 0, none⟩ v5) (l ++ [⟨xf, .mk tk tn ti ta, xk, xl⟩]) := by
  have hka : Kept [] w3 (w3.alloc o) := (Kept.refl [] _).alloc _
  have hkx := hk9.trans hka
  have hg5 : Gr (fun S w e (x : Dp) => DR dd S w e x) Dp.row 7 45 (ob + 2 ≤ ·) (ob + 2) w5 v5 (l ++ [⟨xf, .mk tk tn ti ta, xk, xl⟩]) :=
    Gr.snoc (x := ⟨xf, .mk tk tn ti ta, xk, xl⟩) (e := .tuple #[.slice qa ta.length qc, .slice ra xl.length rc]) (DR.good dd) n1 (fun i x e hx he => (DR.good dd).kept (n3 i x e hx he) hkx (by simp))
      ⟨_, _, rfl, (TR.good dd).mono ((TR.good dd).kept hq hka (by simp)) (fun b _ hb => ⟨by omega, fun e => by have := (hgu b e).2; omega⟩), (hr.kept hka (by simp)).mono (fun b _ hb => ⟨by omega, fun e => by have := (hgu b e).2; omega⟩), hxl⟩ ho5 hk5 hl5
  have hk10 : Kept u.ownBlock.toList w7 w5 := hkx.nil.trans (hk5 _ (by intro y hy; simp [hy]))
  have hno : ob ∉ u.ownBlock.toList := fun hy => by have := (hgu ob (by simpa using hy)).1; omega
  have hno1 : ob + 1 ∉ u.ownBlock.toList := fun hy => by have := (hgu (ob + 1) (by simpa using hy)).1; omega
  have hks : Kept [ob] w5 (w5.setCell ⟨ob, 0, none⟩ v5) := (Kept.refl _ _).setCell (by simp) _
  refine ⟨⟨v5, (hb7.kept hk10 hno).set 0 v5, Gr.kept (DR.good dd) hg5 hks (fun y hy e => ?_) (by simp)⟩, (hS.kept hk10 hno1).kept hks (by simp), ?_⟩
  · simp at hy; subst hy
    have := (hg5.lt _ e).1
    omega
  · refine (hkk.trans' hk10 (fun y hy => .inr ?_)).trans (hks.mono (by simp))
    have := (hgu y (by simpa using hy)).1
    omega

set_option maxRecDepth 100000 in
set_option maxHeartbeats 6400000 in
theorem mergeDeps (dd tb : Nat) {S : Nat → Prop} (v : Value) (ll : List (List Dp)) (w : World) (hT : Tabs tb w) (_htb : tb ≤ w.heap.size)
    (h : Rd (fun S w e (l : List Dp) => DL dd S w e l) (fun _ e => [e]) 1 S w v ll) (_hll : ll.length ≤ 100000) (hl : ∀ l ∈ ll, l.length ≤ 100000)
    (hok : ∀ l ∈ ll, ∀ x ∈ l, tyOk x.ty ∧ tyW x.ty ≤ 140737488355328) (hsm : (uqD ll.flatten).length < 60) :
    Calls Tryz.prog 19 #[v] w fun e w' => ∃ v', e = .returned v' ∧ Gr (fun S w e (x : Dp) => DR dd S w e x) Dp.row 7 45 (w.heap.size ≤ ·) w.heap.size w' v' (mergeD ll.flatten) ∧ Kept [] w w' := by
  obtain ⟨a, c, rfl, g1, g2, h5⟩ := h.form
  have H5 := Lib.hid h5
  have HT := Lib.hid hT
  have HL := Lib.hid hl
  have HOK := Lib.hid hok
  have HSM := Lib.hid hsm
  clear h h5 hT hl hok hsm
  obtain ⟨i0, z0, hi, hz0, hz1, hz2, hz3⟩ := info_dep
  have hmm := @run_makeMap Tryz.prog
  go_enter Tryz.func19, Tryz.ntmps19
  go_wp2
  obtain ⟨w2, hw2⟩ : ∃ w2 : World, w2 = (w.alloc (.cells #[.slice none 0 0] 33)).alloc (.map #[] 0) := ⟨_, rfl⟩
  obtain ⟨ob, hob⟩ : ∃ ob, ob = w.heap.size := ⟨_, rfl⟩
  have hsz2 : w2.heap.size = ob + 2 := by rw [hw2, hob]; simp
  have hk2 : Kept [] w w2 := by rw [hw2]; exact ((Kept.refl [] w).alloc _).alloc _
  have HOB2 : Hid (Blk w2 ob [.slice none 0 0] 33) := by
    rw [hw2, hob]; exact (Blk.new w [.slice none 0 0] _).kept ((Kept.refl [] _).alloc _) (by simp)
  have HMB2 : Hid (w2.heap[ob + 1]? = some (.map #[] 0)) := by
    rw [hw2, hob]; exact halloc_new _ _ _ (by simp)
  have HK2 := Lib.hid hk2
  rw [← hw2, ← hob]
  have HOBE := Lib.hid hob
  clear hw2 hob hmm
  have HS2 := Lib.hid hsz2
  clear hsz2 hk2
  have hms : MSt dd (ob + 2) ob (ob + 1) w2 w2 (uqD []) := ⟨⟨_, HOB2.out, Gr.nil _ _ _⟩, ⟨[], 0, .empty HMB2.out, by simp, by simp [uqD]⟩, Kept.refl _ _⟩
  have HMS := Lib.hid hms
  clear hms
  go_loopw [13] (fun q wr => ∃ k : Nat, k ≤ ll.length ∧ q = .int .i64 k ∧ Hid (MSt dd (ob + 2) ob (ob + 1) w2 wr (uqD (ll.take k).flatten))) (fun q _ => ll.length - (intOf q).toNat)
  case atStart => exact ⟨0, Nat.zero_le _, rfl, by simpa using HMS⟩
  case round =>
    obtain ⟨k, hk, rfl, hms⟩ := hrel
    obtain ⟨wo, hwo⟩ : ∃ wo : World, wo = wr := ⟨_, rfl⟩
    subst hwo
    have hkw : Kept [] w wo := HK2.out.trans' hms.out.kept (by have := HOBE.out; simp; omega)
    by_cases hlt : k < ll.length
    · have hne : ll ≠ [] := by intro h; rw [h] at hlt; simp at hlt
      obtain ⟨b0, o0, rfl, hSb, hb0, hc0⟩ := H5.out.resolve_left hne
      obtain ⟨l, hl⟩ : ∃ l, ll[k]? = some l := ⟨ll[k], by simp⟩
      obtain ⟨e, hre, _, hdl⟩ := hc0 k l hl
      have hmem := List.mem_of_getElem? hl
      have hll2 := HL.out l hmem
      have HXOK := Lib.hid (HOK.out l hmem)
      obtain ⟨a3, c3, rfl, q1, q2, q3⟩ := hdl.form
      have ce := hkw.cell' (hre 0 _ rfl) (by simp)
      rw [Nat.mul_one, Nat.add_zero] at ce
      have Q3 := Lib.hid q3
      have HT2 := Lib.hid (show (ll.take (k + 1)).flatten = (ll.take k).flatten ++ l by rw [List.take_add_one, hl]; simp)
      have HFL : Hid ((uqD ((ll.take k).flatten ++ l)).length < 60) := by
        have e1 : ll.flatten = ((ll.take k).flatten ++ l) ++ (ll.drop (k + 1)).flatten := by rw [← HT2.out, ← List.flatten_append, List.take_append_drop]
        have e2 := uqD_take_len ll.flatten ((ll.take k).flatten ++ l).length
        rw [e1, List.take_left] at e2
        have := HSM.out
        rw [e1] at this
        show _ < _
        omega
      have HDL := Lib.hid hdl
      clear hc0 hre hdl hl q3 hmem hne hSb hb0 hkw
      go_wp2
      go_loopw [19] (fun q wr => ∃ k2 : Nat, k2 ≤ l.length ∧ q = .int .i64 k2 ∧ Hid (MSt dd (ob + 2) ob (ob + 1) w2 wr (uqD ((ll.take k).flatten ++ l.take k2)))) (fun q _ => l.length - (intOf q).toNat)
      case atStart => exact ⟨0, Nat.zero_le _, rfl, by simpa using hms⟩
      case round =>
        clear hms
        obtain ⟨k2, hk2, rfl, hms⟩ := hrel
        obtain ⟨wi, hwi⟩ : ∃ wi : World, wi = wr := ⟨_, rfl⟩
        subst hwi
        by_cases hlt2 : k2 < l.length
        · have hkw : Kept [] w wi := HK2.out.trans' hms.out.kept (by have := HOBE.out; simp; omega)
          have hne : l ≠ [] := by intro h; rw [h] at hlt2; simp at hlt2
          obtain ⟨b1, o1, rfl, hSb, hb1, hc1⟩ := Q3.out.resolve_left hne
          obtain ⟨x, hx⟩ := getp l k2 hlt2
          obtain ⟨x1, x2, x3, x4, hrx, ht, hI, hxl⟩ := hc1 k2 x hx
          have HX := Lib.hid hx
          have HRG := Lib.hid (hkw.range hrx (by simp))
          have HTR := Lib.hid ((TR.good dd).kept ((TR.good dd).mono (S' := (· < ob)) ht (fun b hb _ => by rw [HOBE.out]; exact hb)) hkw (by simp))
          have HI := Lib.hid ((hI.mono (S' := (· < ob)) (fun b hb _ => by rw [HOBE.out]; exact hb)).kept hkw (by simp))
          obtain ⟨hxo, hxw⟩ := HXOK.out x (List.mem_of_getElem? hx)
          have HXO := Lib.hid hxo
          have HT3 := Lib.hid (show (ll.take k).flatten ++ l.take (k2 + 1) = ((ll.take k).flatten ++ l.take k2) ++ [x] by rw [List.take_add_one, hx]; simp)
          have HTB : Hid (Tabs tb wi) := HT.out.kept hkw (by simp)
          obtain ⟨xf, ⟨tk, tn, ti, ta⟩, xk, xl⟩ := x
          simp only [Dp.row, vfst_pair, vsnd_pair, Ty.kind, Ty.name, Ty.index, Ty.args] at HRG HTR HI hxl hxw HXO ⊢
          clear hrx hx hc1 hne Q3 ht hI hxo hSb hb1
          go_upto_block 3 with fail
          go_cut [46] from 21 to 46 (fun _ wx => Hid (MSt dd (ob + 2) ob (ob + 1) w2 wx (uqD ((ll.take k).flatten ++ l.take (k2 + 1)))))
          case first =>
            go_upto_region 9 with (first
              | (refine wpList_load_mid rfl 45 (.tmp 21) rfl b1 (o1 + k2 * 7) rfl [.string xf, .int .i64 tk, .string tn, .int .i64 ti, .slice x1 ta.length x2, .int .i64 xk, .slice x3 xl.length x4] _ HRG.out Tryz.underlying45 rfl (by kernel_rfl) ?_)
              | (refine wpList_allocStore (.tmp 22) 45 rfl rfl rfl rfl rfl rfl _ [.string xf, .int .i64 tk, .string tn, .int .i64 ti, .slice x1 ta.length x2, .int .i64 xk, .slice x3 xl.length x4] info_dep2 rfl (fun _ => rfl) (fun _ => rfl) (by simp [Value.oneCell']) ?_))
            obtain ⟨A, hA⟩ : ∃ A, A = wi.heap.size := ⟨_, rfl⟩
            obtain ⟨wb, hwb⟩ : ∃ wb : World, wb = wi.alloc (.cells (List.toArray [.string xf, .int .i64 tk, .string tn, .int .i64 ti, .slice x1 ta.length x2, .int .i64 xk, .slice x3 xl.length x4]) 45) := ⟨_, rfl⟩
            have hkb : Kept [] wi wb := by rw [hwb]; exact (Kept.refl [] wi).alloc _
            have HB : Hid (Blk wb A [.string xf, .int .i64 tk, .string tn, .int .i64 ti, .slice x1 ta.length x2, .int .i64 xk, .slice x3 xl.length x4] 45) := by rw [hwb, hA]; exact Blk.new wi _ _
            have HT1 := Lib.hid ((TR.good dd).kept HTR.out hkb (by simp))
            have HI1 := Lib.hid (HI.out.kept hkb (by simp))
            have HTB1 : Hid (Tabs tb wb) := HTB.out.kept hkb (by simp)
            obtain ⟨⟨u, hbu, hgu⟩, hseen, hkk⟩ := hms.out
            have HUL : Hid (∀ y, u.ownBlock = some y → ob + 2 ≤ y ∧ y < A) := by rw [hA]; exact hgu.lt
            have HBU := Lib.hid (hbu.kept hkb (by simp))
            have HGU := Lib.hid (Gr.kept (DR.good dd) hgu hkb (by simp) (by simp))
            have HSE := Lib.hid (hseen.kept hkb (by simp))
            have HKK := Lib.hid (hkk.trans hkb.nil)
            have HOA : Hid (ob + 2 ≤ A) := by rw [hA, ← HS2.out]; exact hkk.size
            rw [← hA, ← hwb]
            have hAwb : A < wb.heap.size := HB.out.lt
            clear hwb HRG HTR HI hA hms hbu hgu hseen hkk hkb hkw HTB
            have HKF : Hid (∀ M w', Kept M wb w' → A ∉ M → w'.cell? ⟨A, 0, none⟩ = some (.string xf) ∧ w'.cell? ⟨A, 1, none⟩ = some (.int .i64 tk) ∧ w'.cell? ⟨A, 2, none⟩ = some (.string tn) ∧ w'.cell? ⟨A, 3, none⟩ = some (.int .i64 ti) ∧ w'.cell? ⟨A, 4, none⟩ = some (.slice x1 ta.length x2) ∧ w'.cell? ⟨A, 5, none⟩ = some (.int .i64 xk) ∧ w'.cell? ⟨A, 6, none⟩ = some (.slice x3 xl.length x4)) := Lib.hid (fun M w' hk hn => (HB.out.kept hk hn).seven)
            have HKF5 : Hid (∀ M w', Kept M wb w' → A ∉ M → w'.cell? ⟨A, 0, none⟩ = some (.string xf) ∧ w'.cell? ⟨A, 1, none⟩ = some (.int .i64 tk) ∧ w'.cell? ⟨A, 2, none⟩ = some (.string tn) ∧ w'.cell? ⟨A, 3, none⟩ = some (.int .i64 ti) ∧ w'.cell? ⟨A, 4, none⟩ = some (.slice x1 ta.length x2)) := Lib.hid (fun M w' hk hn => by obtain ⟨p0, p1, p2, p3, p4, _⟩ := HKF.out M w' hk hn; exact ⟨p0, p1, p2, p3, p4⟩)
            have HKEY : Hid (∀ W, Kept [] wb W → Calls Tryz.prog 40 #[.agg #[.int .i64 tk, .string tn, .int .i64 ti, .slice x1 ta.length x2]] W fun q w' => q = .returned (.string (keyOf (.mk tk tn ti ta))) ∧ Kept [] W w' ∧ Kept [] wb w') := Lib.hid (fun W hW => by
              refine (typeKey dd tb (.mk tk tn ti ta) (.slice x1 ta.length x2) W (HTB1.out.kept0 hW) ((TR.good dd).kept HT1.out hW (by simp)) HXO.out hxw).mono ?_
              rintro q w' ⟨rfl, hk⟩
              exact ⟨rfl, hk, hW.trans hk⟩)
            simp only [Act.put, List.setIfInBounds_toArray, List.set_cons_succ, List.set_cons_zero]
            go_cut [9] from 23 to 30 (fun s9 wx => ∃ K : Nat, s9 = .pointer (some ⟨K, 0, none⟩) ∧ Kept [] wb wx ∧ Hid (wx.cell? ⟨K, 0, none⟩ = some (.string xf) ∧ wx.cell? ⟨K, 1, none⟩ = some (.string (keyOf (.mk tk tn ti ta)))) ∧ wb.heap.size ≤ K)
            case first =>
              go_region_held3 (fun w' => w'.cell? ⟨A, 0, none⟩ = some (.string xf) ∧ w'.cell? ⟨A, 1, none⟩ = some (.int .i64 tk) ∧ w'.cell? ⟨A, 2, none⟩ = some (.string tn) ∧ w'.cell? ⟨A, 3, none⟩ = some (.int .i64 ti) ∧ w'.cell? ⟨A, 4, none⟩ = some (.slice x1 ta.length x2))
                (first | with_reducible exact HKF5.out _ _ ((hk9.setCell (p := ⟨wb.heap.size, 0, none⟩) (.inr (Nat.le_refl _)) _).setCell (p := ⟨wb.heap.size, 1, none⟩) (.inr (Nat.le_refl _)) _) List.not_mem_nil | with_reducible exact HKF5.out _ _ (hk9.alloc _) List.not_mem_nil | with_reducible exact HKF5.out _ _ hk9 List.not_mem_nil | with_reducible exact HKF5.out _ _ ((Kept.refl [] wb).drew) List.not_mem_nil | with_reducible exact HKF5.out _ _ (((Kept.refl [] wb).alloc _).drew) List.not_mem_nil)
                (first
                  | (go_at_call 40; (refine Calls.mono (HKEY.out _ (by first | exact (Kept.refl [] wb).drew | exact ((Kept.refl [] wb).alloc _).drew)) ?_; rintro q w3 ⟨rfl, hqk, hk9⟩; (try (have hKB := (show Blk ((wb.alloc (.cells #[.string ⟨#[]⟩, .string ⟨#[]⟩] 88)).drew) wb.heap.size [.string ⟨#[]⟩, .string ⟨#[]⟩] 88 from Blk.new wb _ _).kept hqk (by simp); obtain ⟨⟨hK0, hK1⟩, hF0, hF1⟩ := hKB.two; have HKB := Lib.hid hKB; clear hKB)))))
              all_goals
                go_wp2_with fail
                go_meet
                first
                  | exact ⟨wb.heap.size, rfl, (hk9.setCell (p := ⟨wb.heap.size, 0, none⟩) (.inr (Nat.le_refl _)) _).setCell (p := ⟨wb.heap.size, 1, none⟩) (.inr (Nat.le_refl _)) _, ((HKB.out.set 0 (.string xf)).set 1 (.string (keyOf (.mk tk tn ti ta)))).two.1, Nat.le_refl _⟩
                  | exact ⟨w3.heap.size, rfl, hk9.alloc _, (Blk.new w3 [.string xf, .string (keyOf (.mk tk tn ti ta))] 88).two.1, hk9.size⟩
            case rest =>
              obtain ⟨K, rfl, hkc, hkq, hKs⟩ := hcut
              obtain ⟨kq0, kq1⟩ := hkq.out
              have hnA : A ∉ ([] : List Nat) := List.not_mem_nil
              have HBC := Lib.hid (HB.out.kept hkc hnA)
              have HTC := Lib.hid ((TR.good dd).kept HT1.out hkc (by simp))
              have HIC := Lib.hid (HI1.out.kept hkc (by simp))
              have HBUC := Lib.hid (HBU.out.kept hkc List.not_mem_nil)
              have HGUC := Lib.hid (Gr.kept (DR.good dd) HGU.out hkc (by simp) (by simp))
              have HKKC := Lib.hid (HKK.out.trans hkc.nil)
              have HAC : Hid (A < wc.heap.size) := Nat.lt_of_lt_of_le hAwb hkc.size
              obtain ⟨es, n, m1, m2, m3⟩ := HSE.out.kept hkc List.not_mem_nil
              clear hkq hKs hkc hnA hAwb HB HT1 HI1 HBU HGU HSE HKK HKEY HKF HKF5 HTB1
              obtain ⟨bb, hlk, hbb⟩ : ∃ bb : Bool, (Instr.lookup 85 (.map (some (ob + 1))) (.agg #[.string xf, .string (keyOf (.mk tk tn ti ta))]) false).run Tryz.prog wc = .ok (.bool bb) wc ∧ (bb = true ↔ ∃ y ∈ uqD ((ll.take k).flatten ++ l.take k2), y.fn = xf ∧ y.ty = .mk tk tn ti ta) := by
                by_cases hin : ∃ y ∈ uqD ((ll.take k).flatten ++ l.take k2), y.fn = xf ∧ y.ty = .mk tk tn ti ta
                · obtain ⟨e, he, hek⟩ := (m3 xf (.mk tk tn ti ta)).2 hin
                  have hlk := m1.lookup_some key_query Tryz.underlying85 he false
                  rw [hek, m2 e he] at hlk
                  simp only [queryK, Bool.false_eq_true, if_false] at hlk
                  exact ⟨true, hlk, by simpa using hin⟩
                · have hno : ∀ e ∈ es, e.key ≠ queryK xf (keyOf (.mk tk tn ti ta)) := fun e he hk => hin ((m3 xf (.mk tk tn ti ta)).1 ⟨e, he, hk⟩)
                  have hlk := m1.lookup_none key_query Tryz.underlying85 (zero_bool wc) ⟨_, _, rfl⟩ hno false
                  simp only [queryK, Bool.false_eq_true, if_false] at hlk
                  exact ⟨false, hlk, by simpa using hin⟩
              have HBBI := Lib.hid hbb
              have M1 := Lib.hid m1
              have M2 := Lib.hid m2
              have M3 := Lib.hid m3
              clear hbb m1 m2 m3
              cases bb with
              | true =>
                have hin := HBBI.out.1 rfl
                have HSE : Hid (SeenAt wc (ob + 1) (uqD ((ll.take k).flatten ++ l.take k2))) := ⟨es, n, M1.out, M2.out, M3.out⟩
                have HAD := Lib.hid (addQ_in (x := ⟨xf, .mk tk tn ti ta, xk, xl⟩) hin)
                clear hin
                go_wp2
                go_meet
                rw [HT3.out, uqD_snoc, HAD.out]
                exact ⟨⟨u, HBUC.out, HGUC.out⟩, HSE.out, HKKC.out⟩
              | false =>
                have hin := fun q => Bool.false_ne_true (HBBI.out.2 q)
                have HAD := Lib.hid (addQ_out (x := ⟨xf, .mk tk tn ti ta, xk, xl⟩) hin)
                have HNO : Hid (∀ e ∈ es, e.key ≠ queryK xf (keyOf (.mk tk tn ti ta))) := fun e he hk => hin ((M3.out xf (.mk tk tn ti ta)).1 ⟨e, he, hk⟩)
                clear hin
                go_upto_region 12 with (refine wpList_gmap_new rfl (.tmp 35) (.tmp 36) (.const (.bool true)) (.inl rfl) key_query Tryz.underlying85 (queryK xf (keyOf (.mk tk tn ti ta))) (.bool true) rfl rfl rfl M1.out ⟨_, _, rfl⟩ HNO.out ?_; intro w7 hm7 hk7 hz7)
                have hnA : A ∉ [ob + 1] := by have := HOA.out; simp; omega
                have HB7 := Lib.hid (HBC.out.kept hk7 hnA)
                have HT7 := Lib.hid ((TR.good dd).kept HTC.out hk7 (by simp))
                have HI7 := Lib.hid (HIC.out.kept hk7 (by simp))
                have hul : ∀ y ∈ ([ob + 1] : List Nat), u.ownBlock ≠ some y := by intro y hy e; have := (HUL.out y e).1; simp at hy; omega
                have HBU7 := Lib.hid (HBUC.out.kept hk7 (by simp))
                have HGU7 := Lib.hid (Gr.kept (DR.good dd) HGUC.out hk7 hul (by simp))
                have HSE7 : Hid (SeenAt w7 (ob + 1) (uqD ((ll.take k).flatten ++ l.take k2) ++ [⟨xf, .mk tk tn ti ta, xk, xl⟩])) := SeenAt.add (x := ⟨xf, .mk tk tn ti ta, xk, xl⟩) M2.out M3.out hm7
                have HKK7 := Lib.hid (HKKC.out.trans (hk7.mono (M' := [ob, ob + 1]) (by simp)))
                have HA7 : Hid (A < w7.heap.size) := Nat.lt_of_lt_of_le HAC.out hk7.size
                have HKF : Hid (∀ M w', Kept M w7 w' → A ∉ M → w'.cell? ⟨A, 0, none⟩ = some (.string xf) ∧ w'.cell? ⟨A, 1, none⟩ = some (.int .i64 tk) ∧ w'.cell? ⟨A, 2, none⟩ = some (.string tn) ∧ w'.cell? ⟨A, 3, none⟩ = some (.int .i64 ti) ∧ w'.cell? ⟨A, 4, none⟩ = some (.slice x1 ta.length x2) ∧ w'.cell? ⟨A, 5, none⟩ = some (.int .i64 xk) ∧ w'.cell? ⟨A, 6, none⟩ = some (.slice x3 xl.length x4)) := Lib.hid (fun M w' hk hn => (HB7.out.kept hk hn).seven)
                have HQ : Hid (∀ W, Kept [] w7 W → Calls Tryz.prog 41 #[.agg #[.string xf, .int .i64 tk, .string tn, .int .i64 ti, .slice x1 ta.length x2]] W fun q w' => ∃ (qa : Option Addr) (qc : Nat), q = .returned (.agg #[.string xf, .int .i64 tk, .string tn, .int .i64 ti, .slice qa ta.length qc]) ∧ TR dd (A < ·) w' (.slice qa ta.length qc) ta ∧ Kept [] W w' ∧ Kept [] w7 w') := Lib.hid (fun W hW => by
                  refine (ownQuery dd xf tk tn ti ta (.slice x1 ta.length x2) W ((TR.good dd).kept HT7.out hW (by simp))).mono ?_
                  rintro q w' ⟨e', rfl, ht, hk⟩
                  obtain ⟨qa, qc, rfl, _⟩ := ht.form
                  exact ⟨qa, qc, rfl, (TR.good dd).mono ht (fun y _ hy => by have := hW.size; have := HA7.out; omega), hk, hW.trans hk⟩)
                have HR : Hid (∀ W, Kept [] w7 W → Calls Tryz.prog 42 #[.agg #[.int .i64 xk, .slice x3 xl.length x4]] W fun q w' => ∃ (qa : Option Addr) (qc : Nat), q = .returned (.agg #[.int .i64 xk, .slice qa xl.length qc]) ∧ Reads (A < ·) w' (.slice qa xl.length qc) 1 (irows xl) ∧ Kept [] W w' ∧ Kept [] w7 w') := Lib.hid (fun W hW => by
                  refine (ownResolution xk xl (.slice x3 xl.length x4) W (HI7.out.kept hW (by simp)) hxl).mono ?_
                  rintro q w' ⟨e', rfl, ht, hk⟩
                  obtain ⟨qa, qc, rfl, _⟩ := ht.ints
                  exact ⟨qa, qc, rfl, ht.mono (fun y _ hy => by have := hW.size; have := HA7.out; omega), hk, hW.trans hk⟩)
                have HOBK : Hid (∀ W, Kept [] w7 W → W.cell? ⟨ob, 0, none⟩ = some u ∧ W.frozen? ⟨ob, 0, none⟩ = false ∧ W.heap.size ≠ ob) := Lib.hid (fun W hW => by
                  have h1 := HBU7.out.kept hW List.not_mem_nil
                  exact ⟨h1.cell 0 _ rfl, h1.frozen 0, by have := h1.lt; omega⟩)
                obtain ⟨es2, n1, n2, n3⟩ := HGU7.out
                have hlen : (List.zipWith Dp.row (uqD ((ll.take k).flatten ++ l.take k2)) es2).length = (uqD ((ll.take k).flatten ++ l.take k2)).length := zip_len n1
                have hl20 : (uqD ((ll.take k).flatten ++ l.take k2)).length < 60 := by
                  have e2 := uqD_take_len ((ll.take k).flatten ++ l) (((ll.take k).flatten).length + k2)
                  rw [List.take_append, List.take_of_length_le (by omega), show ((ll.take k).flatten).length + k2 - ((ll.take k).flatten).length = k2 by omega] at e2
                  have := HFL.out
                  omega
                have N1 := Lib.hid n1
                have N2 := Lib.hid n2
                have N3 := Lib.hid n3
                have HLN := Lib.hid hlen
                have HL20 := Lib.hid hl20
                obtain ⟨ob0, of0, on0⟩ := HOBK.out w7 (Kept.refl _ _)
                obtain ⟨p0, p1, p2, p3, p4, p5, p6⟩ := HKF.out [] w7 (Kept.refl _ _) List.not_mem_nil
                have HUA : Hid (A ∉ u.ownBlock.toList) := fun hy => by have := (HUL.out A (by simpa using hy)).2; omega
                have HUO : Hid (ob ∉ u.ownBlock.toList) := fun hy => by have := (HUL.out ob (by simpa using hy)).1; omega
                have HUA2 : Hid (A ∉ ob :: u.ownBlock.toList) := fun hy => by
                  rcases List.mem_cons.1 hy with e | hy
                  · have := HOA.out; omega
                  · exact HUA.out hy
                clear hm7 hk7 hz7 hul hnA hlen hl20 n1 n2 n3 HBC HTC HIC HBUC HGUC HKKC HAC hlk
                go_region_law ((first
                    | (refine step_append_rows rfl (.tmp 37) (.tmp 45) 33 45 rfl i0 z0 7 104 Tryz.underlying33 hi hz0 hz1 hz2 hz3 (by decide) (ob + 2) u (List.zipWith Dp.row (uqD ((ll.take k).flatten ++ l.take k2)) es2) [[.string xf, .int .i64 tk, .string tn, .int .i64 ti, .slice qa ta.length qc, .int .i64 xk, .slice ra xl.length rc]] rfl (N2.out.kept (hk9.alloc _) (by simp)) (fun _ => True) (.slice (some ⟨w3.heap.size, 0, none⟩) 1 1) rfl (rows_lit [[.string xf, .int .i64 tk, .string tn, .int .i64 ti, .slice qa ta.length qc, .int .i64 xk, .slice ra xl.length rc]] (halloc_new _ _ _ rfl) (by simp [Value.oneCell']) (by simp)) (by rw [HLN.out]; have := HL20.out; simp; omega) (by rw [HLN.out]; have := HL20.out; simp; omega) (by have := hk9.size; have := HA7.out; have := HOA.out; simp; omega) ?_; intro v5 w5 ho5 hk5 hl5; obtain ⟨va, N5, vc, rfl⟩ : ∃ a n c, v5 = .slice a n c := (by obtain ⟨a, c, h, _⟩ := ho5.shape; exact ⟨a, _, c, h⟩); have hk10 := (hk9.nil.alloc _).trans (hk5 u.ownBlock.toList (by intro y hy; simp [hy])); have hb10 := HBU7.out.kept hk10 HUO.out; have ob10 := hb10.cell 0 _ rfl; have of10 := hb10.frozen 0; have HB10 := Lib.hid hb10; have HO5 := Lib.hid ho5; have HK5 := Lib.hid hk5; have HL5 := Lib.hid hl5; have HK10 := Lib.hid hk10; clear ho5 hk5 hl5 hb10 hk10)
                    | (go_simp; go_at_call 41; refine Calls.mono (HQ.out _ (by first | exact hk9 | exact (Kept.refl [] w7).drew)) ?_; rintro q w3 ⟨qa, qc, rfl, hqt, hqk, hk9⟩; have HQT := Lib.hid hqt; (try (have HRS := Lib.hid (HRS.out.kept hqk (by simp)))); clear hqt; obtain ⟨ob0, of0, on0⟩ := HOBK.out w3 hk9; have obA := fun o => (HOBK.out (w3.alloc o) (hk9.alloc o)).1; obtain ⟨p0, p1, p2, p3, p4, p5, p6⟩ := HKF.out [] w3 hk9 List.not_mem_nil)
                    | (go_simp; go_at_call 42; refine Calls.mono (HR.out _ (by first | exact hk9 | exact (Kept.refl [] w7).drew)) ?_; rintro q w3 ⟨ra, rc, rfl, hqt, hqk, hk9⟩; have HRS := Lib.hid hqt; (try (have HQT := Lib.hid ((TR.good dd).kept HQT.out hqk (by simp)))); clear hqt; obtain ⟨ob0, of0, on0⟩ := HOBK.out w3 hk9; have obA := fun o => (HOBK.out (w3.alloc o) (hk9.alloc o)).1; obtain ⟨p0, p1, p2, p3, p4, p5, p6⟩ := HKF.out [] w3 hk9 List.not_mem_nil)))
                all_goals
                  go_wp2_with fail
                  go_meet
                  rw [HT3.out, uqD_snoc, HAD.out]
                  exact MSt.push HSE7.out HBU7.out HUL.out N1.out N3.out HKK7.out HS2.out HOA.out hk9 HQT.out HRS.out hxl HO5.out HK5.out HL5.out
          case rest =>
            have hms := hcut
            clear hcut
            go_wp2_with fail
            go_roundw
            case rel => exact ⟨k2 + 1, by omega, by go_num, hms⟩
            case measure => simp [intOf]; omega
        · have hfin := hms.out
          rw [show k2 = l.length by omega, List.take_length, ← HT2.out] at hfin
          have HFIN := Lib.hid hfin
          clear hfin hms
          go_wp2
          go_roundw
          case rel => exact ⟨k + 1, by omega, by go_num, HFIN⟩
          case measure => simp [intOf]; omega
    · have hfin := hms.out
      rw [show k = ll.length by omega, List.take_length] at hfin
      obtain ⟨⟨u, hbu, hgu⟩, _, hkk⟩ := hfin
      have HKK : Hid (Kept [] w wo) := HK2.out.trans' hkk (by have := HOBE.out; simp; omega)
      have e0 := hbu.cell 0 _ rfl
      have hrow : (u = .slice none 0 0 ∧ uqD ll.flatten = []) ∨ ∃ g n cap, u = .slice (some ⟨g, 0, none⟩) n cap := by
        obtain ⟨es, h1, h2, _⟩ := hgu
        rcases h2.row.2 with ⟨rfl, h3⟩ | ⟨g, cap, cur, rfl, _⟩
        · rw [zip_len h1] at h3
          exact .inl ⟨rfl, List.eq_nil_of_length_eq_zero h3⟩
        · exact .inr ⟨g, _, cap, rfl⟩
      have HBU := Lib.hid hbu
      clear hms hbu hkk hkw
      rcases hrow with ⟨rfl, hnil⟩ | ⟨g, n, cap, rfl⟩
      · have HNIL := Lib.hid hnil
        clear hnil hgu
        go_wp2_with (go_at_call 43; refine Calls.mono (sliceStable_tiny none 0 0 (by omega) _ _ _ _) ?_; rintro e w9 ⟨rfl, hk9⟩; have HK9 := Lib.hid hk9; have e9 := hk9.cell' e0 List.not_mem_nil; clear hk9)
        go_ret
        refine ⟨_, rfl, ?_, HKK.out.trans HK9.out⟩
        unfold mergeD
        rw [HNIL.out, show ([] : List Dp).mergeSort leD = [] by simp]
        exact Gr.nil _ _ _
      · obtain ⟨d, hd, hn, hsr, hbg, hcm⟩ := Gr.toSR hgu
        have hne : ob ≠ g := by omega
        have hsz : d.size ≤ 100000 := by
          have h1 := HSM.out
          rw [← hd] at h1
          have h2 : d.size < 60 := by simpa using h1
          omega
        have hc := sliceStable (dd := dd) (S := (ob + 2 ≤ ·)) (g := g) (cap := cap) (ob := ob) d wo hsr (by rw [hn]; exact e0) hne hsz
        rw [hn] at hc
        have HC := Lib.hid hc
        have HD := Lib.hid hd
        have HN := Lib.hid hn
        clear hc hsr hgu hd hn
        go_wp2_with (go_at_call 43; refine Calls.mono HC.out ?_; rintro e w9 ⟨rfl, d9, hs9, hp9, ho9, hk9⟩; have HK9 := Lib.hid hk9; have e9 := hk9.cell' e0 (by simpa using hne); have HS9 := Lib.hid hs9; have HP9 := Lib.hid hp9; have HO9 := Lib.hid ho9; clear hk9 hs9 hp9 ho9)
        go_ret
        obtain ⟨q1, q2⟩ := sort_merge HD.out (by rw [HN.out]; exact HP9.out) (by rw [HN.out]; exact HO9.out)
        have hg9 := HS9.out.toGr hbg hcm
        rw [HN.out] at q2
        rw [q1, q2] at hg9
        have hobe := HOBE.out
        refine ⟨_, rfl, Gr.mono (DR.good dd) hg9 (by omega) (fun b _ hb => by omega), HKK.out.trans' HK9.out (by simp; omega)⟩
end Go.Proofs.YtkldomkooleecaaGreatDoor
