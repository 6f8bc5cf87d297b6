/- The law GraphClosure: the walk. -/
import Derived.Test.YtkldomkooleecaaGreatDoorClosQ
import Derived.Test.YtkldomkooleecaaGreatDoorSane32
namespace Go.Proofs.YtkldomkooleecaaGreatDoor
open Go.RowKit Go.Maps Go.MapKept

theorem drop_at {sq : List Int} {p : Nat} {x : Int} {rest : List Int} (h : sq.drop p = x :: rest) : sq[p]? = some x ∧ sq.drop (p + 1) = rest := by
  have h0 : (sq.drop p)[0]? = some x := by rw [h]; rfl
  rw [List.getElem?_drop, Nat.add_zero] at h0
  refine ⟨h0, ?_⟩
  have : (sq.drop p).drop 1 = rest := by rw [h]; rfl
  rw [List.drop_drop] at this
  exact this
theorem take_at {sq : List Int} {p : Nat} {x : Int} (ns : List Nd) (h : sq[p]? = some x) : ((sq.take (p + 1)).map (depsOf ns)).flatten = ((sq.take p).map (depsOf ns)).flatten ++ depsOf ns x := by
  rw [List.take_add_one, h]; simp

theorem one_list {wi w9 : World} {la : Option Addr} {lc : Nat} {L : List Dp} (h : DL 1 (fun _ => True) wi (.slice la L.length lc) L) (k : Kept [] wi w9) :
    Rd (fun S w e (l : List Dp) => DL 1 S w e l) (fun _ e => [e]) 1 (fun _ => True) (w9.alloc (.cells #[.slice la L.length lc] 33)) (.slice (some ⟨w9.heap.size, 0, none⟩) 1 1) [L] :=
  Gr.rd (DL.good 1) (lists_one (base := 0) (S := fun _ => True) (Blk.new w9 [.slice la L.length lc] 33) rfl (Nat.zero_le _)
    ((DL.good 1).kept ((DL.good 1).mono ((DL.good 1).kept h k (by simp)) (fun b hb _ => ⟨trivial, by omega⟩)) ((Kept.refl [] w9).alloc _) (by simp))) (fun _ _ => trivial)

set_option maxRecDepth 100000 in
set_option maxHeartbeats 6400000 in
theorem graphClosure {S : Nat → Prop} (v : Value) (l : List Int) (w : World) (h : Reads S w v 1 (irows l)) (hS : ∀ b, S b → b < w.heap.size) (hT : Tabs w.heap.size w) :
    Calls Tryz.prog 5 #[v] w fun e w' => e = .returned (.bool true) ∧ Kept [] w w' := by
  obtain ⟨ii, hii0, hii1, hii2, hii3⟩ := info_parts info_int'
  obtain ⟨id0, zd, hid0, hzd0, hzd1, hzd2, hzd3⟩ := info_dep
  have hmm := @run_makeMap Tryz.prog
  have HR := Lib.hid h
  have HTB := Lib.hid hT
  clear h hT
  go_enter Tryz.func5, Tryz.ntmps5
  go_upto_block 0 with (first
    | (go_at_call 8; refine Calls.mono (newTape _ l _ (by exact HR.out) (by exact hS)) ?_; rintro e w1 ⟨rfl, htp, hk1⟩; have HTP := Lib.hid htp; have HK1 := Lib.hid hk1; clear htp hk1)
    | (go_at_call 7; refine Calls.mono (built w.heap.size 0 _ (by exact HTP.out) (by decide)) ?_; rintro e w2 ⟨b, nb, eb, base, ns, rfl, hbt, hk2, hbs⟩; have HBT := Lib.hid hbt; have HK2 := Lib.hid hk2; have HBS := Lib.hid hbs; clear hbt hk2 hbs))
  have HK : Hid (Kept [] w w2) := Lib.hid (HK1.out.trans' HK2.out (by simp))
  have HBS2 : Hid (w.heap.size ≤ base) := Lib.hid (by have := HBS.out; have := HK1.out.size; omega)
  clear HK1 HK2 HBS HTP HR
  go_wp2_with fail
  go_loopw [5] (fun i wr => ∃ α : Int, 1 ≤ α ∧ α ≤ 17 ∧ i = .int .i64 α ∧ Kept [] w2 wr) (fun i _ => (17 - intOf i).toNat)
  case atStart => exact ⟨1, by omega, by omega, rfl, Kept.refl _ _⟩
  case round =>
    obtain ⟨α, ha1, ha2, rfl, hkw⟩ := hrel
    obtain ⟨wo, hwo⟩ : ∃ wo : World, wo = wr := ⟨_, rfl⟩
    subst hwo
    by_cases hlt : α ≤ 16
    · go_upto_region 8 with (refine wpList_gmap_new rfl (.tmp 27) (.tmp 28) (.const (.bool true)) (.inr rfl) key_int Tryz.underlying49 (.int .i64 α) (.bool true) rfl rfl rfl (b := wo.heap.size + 1) (.empty (halloc_new _ _ _ (by simp))) ⟨_, rfl⟩ (by simp) ?_; intro w7 hm7 hk7 hz7)
      obtain ⟨Bz, hBz⟩ : ∃ Bz, Bz = wo.heap.size := ⟨_, rfl⟩
      obtain ⟨mb, hmb⟩ : ∃ mb, mb = wo.heap.size + 1 := ⟨_, rfl⟩
      have hk07 : Kept [] wo w7 := (((Kept.refl [] wo).alloc _).alloc _).trans' hk7 (by simp)
      have HSE : Hid (SeenI w7 mb [α]) := Lib.hid (by rw [hmb]; exact SeenI.add (sq := []) (es := []) (by simp) (by simp) hm7)
      have HB7 : Blk w7 Bz [.int .i64 α] 3 := by rw [hBz]; exact (Blk.old wo [.int .i64 α] _ _).kept hk7 (by simp)
      have HQ7 := Lib.hid (QI.one HB7 (Nat.le_refl Bz))
      have hmbs : mb < w7.heap.size := by have := hz7; simp at this; omega
      have hBw : Bz ≤ w7.heap.size := by have := HB7.lt; omega
      have hgm : Bz ≠ mb := by omega
      rw [← hmb, ← hBz]
      have HBZ := Lib.hid hBz
      have HMB : Hid (mb = Bz + 1) := Lib.hid (by omega)
      have HK7 := Lib.hid (hkw.trans hk07)
      clear hm7 hk7 hz7 hmb hBz hk07 HB7
      go_wp2_with fail
      go_loopg [6, 8] 17 (fun kk tv av wr => ∃ (sq : List Int) (p g off cap n : Nat), kk = 17 - p ∧ tv = .slice (some ⟨g, off, none⟩) n cap ∧ Hid (n = (sq.drop p).length) ∧ Hid (Srch ns α sq p) ∧ p ≤ 16 ∧ Hid (QI wr Bz g off cap (sq.drop p)) ∧ Hid (SeenI wr mb sq) ∧ Hid (AG wr mb g Bz av ((sq.take p).map (depsOf ns)).flatten) ∧ g ≠ mb ∧ mb < wr.heap.size ∧ Bz ≤ wr.heap.size ∧ Kept [] w2 wr)
      case atStart => exact ⟨[α], 0, Bz, 0, 1, 1, rfl, rfl, rfl, ⟨by simp, by simp, by simp; exact .refl, by simp, by simp⟩, by omega, HQ7.out, HSE.out, ⟨Gr.nil _ _ _, by intro y hy; simp [Value.ownBlock] at hy⟩, hgm, hmbs, hBw, HK7.out⟩
      case round =>
        clear HSE HQ7 hmbs hBw hgm HK7
        obtain ⟨sq, p, g, off, cap, n, rfl, rfl, hn, hsr, hp16, hqi, hse, hag, hgm, hmbs, hBw, hkr⟩ := hrel
        obtain ⟨wi, hwi⟩ : ∃ wi : World, wi = wr := ⟨_, rfl⟩
        subst hwi
        by_cases hn0 : 0 < n
        · obtain ⟨m, rfl⟩ : ∃ m, n = m + 1 := ⟨n - 1, by omega⟩
          obtain ⟨x, rest, hd⟩ : ∃ x rest, sq.drop p = x :: rest := by
            cases hq : sq.drop p with
            | nil => have := hn.out; rw [hq] at this; simp at this
            | cons x rest => exact ⟨x, rest, rfl⟩
          obtain ⟨hat, hd1⟩ := drop_at hd
          have hqi' := hqi.out
          have hn' := hn.out
          rw [hd] at hqi' hn'
          simp only [List.length_cons, Nat.add_right_cancel_iff] at hn'
          have hmc := hqi'.le
          simp only [List.length_cons] at hmc
          obtain ⟨c, hc⟩ : ∃ c, cap = c + 1 := ⟨cap - 1, by omega⟩
          rw [hc] at hqi'
          have hcc : cap - 1 = c := by omega
          have hcap : m + 1 ≤ cap := by omega
          have hcap1 : 1 ≤ cap := by omega
          have HC := Lib.hid hc
          clear hc
          have hmc' : m ≤ c := by have := HC.out; omega
          have c0 := hqi'.here 0 x rfl
          rw [Nat.add_zero] at c0
          have hq1 : QI wi Bz g (off + 1) c (sq.drop (p + 1)) := by rw [hd1]; exact hqi'.tail
          have hcm := hqi'.max
          simp only [maxLen] at hcm
          have HQ1 := Lib.hid hq1
          have HN1 : Hid (m = (sq.drop (p + 1)).length) := Lib.hid (by rw [hd1]; exact hn')
          have HSI := Lib.hid (hsr.out.enter hat)
          have HTK := Lib.hid (take_at ns hat)
          have hsl := seen_len HBT.out ha1 hlt hsr.out.reach hsr.out.nodup
          have hpl : p < sq.length := (List.getElem?_eq_some_iff.1 hat).1
          have hB2 : w2.heap.size ≤ Bz := by have := HBZ.out; have := hkw.size; omega
          have hmbB : Bz ≤ mb := by have := HMB.out; omega
          have hll := all_len HBT.out (sq.take p)
          simp only [List.length_take] at hll
          generalize hL : ((sq.take p).map (depsOf ns)).flatten = L at hag hll HTK
          have HSEE := hse
          have HAG := hag
          have HWK := Lib.hid hkr
          have HG := Lib.hid (HBT.out.gat.kept0 hkr)
          obtain ⟨⟨es, n1, n2, n3⟩, hav⟩ := hag.out
          have hlen : (List.zipWith Dp.row L es).length ≤ 16000 := by rw [zip_len n1]; omega
          have hdl := depsOf_len HBT.out x
          have HAVL : Hid (∀ y, u8.ownBlock = some y → Bz ≤ y ∧ y < wi.heap.size ∧ y ≠ mb ∧ y ≠ g) := Lib.hid (fun y hy => ⟨(n2.lt y hy).1, (n2.lt y hy).2, hav y hy⟩)
          have N1 := Lib.hid n1
          have N2 := Lib.hid n2
          have N3 := Lib.hid n3
          obtain ⟨av, hav8⟩ : ∃ av, av = u8 := ⟨_, rfl⟩
          subst hav8
          have HGL := Lib.hid hq1.lt
          have HGB := Lib.hid hq1.lo
          have hmm2 : m ≤ 16 := by rw [HN1.out]; simp only [List.length_drop]; omega
          clear hn hsr hqi hqi' hn' hag hse hd hd1 hq1 hkr hat hL hav n1 n2 n3 hll
          go_upto_region 11 with fail
          go_cut [6] from 30 to 37 (fun s6 wx => ∃ off1 c1 : Nat, s6 = .slice (some ⟨g, off1, none⟩) m c1 ∧ Hid (QI wi Bz g off1 c1 (sq.drop (p + 1))) ∧ wi = wx)
          case first =>
            have HQ0 : Hid (c = 0 → QI wi Bz g off 0 (sq.drop (p + 1))) := Lib.hid (fun hc0 => by
              subst hc0
              have h1 := HQ1.out
              have h2 := HN1.out
              have h3 : sq.drop (p + 1) = [] := List.eq_nil_of_length_eq_zero (by omega)
              rw [h3] at h1 ⊢
              exact ⟨h1.lo, h1.lt, h1.le, h1.max, fun j x hx => by simp at hx, fun j _ h => by omega⟩)
            go_wp2_with fail
            · go_meet
              exact ⟨off, _, rfl, (by first | exact HQ0.out (by omega) | (have h0 : c = 0 := (by omega); have := HQ0.out h0; rw [← h0] at this; exact this)), rfl⟩
            · go_meet
              exact ⟨off + 1, c, rfl, HQ1.out, rfl⟩
          case rest =>
          clear HQ1
          obtain ⟨off1, c1, rfl, HQ1, rfl⟩ := hcut
          go_upto_region 13 with (first
            | (refine wpList_append_rows rfl (.tmp 38) (.tmp 41) 33 45 rfl id0 zd 7 104 Tryz.underlying33 hid0 hzd0 hzd1 hzd2 hzd3 (by decide) Bz av (List.zipWith Dp.row L es) (List.zipWith Dp.row (depsOf ns x) fs) rfl (N2.out.kept HK5.out (by simp)) _ _ rfl M2.out.rows (by have := HFL.out; omega) (by have := HFL.out; omega) (by have := HK5.out.size; omega) ?_; intro v6 w6 ho6 hk6 hl6; have HO6 := Lib.hid ho6; have HK6 := Lib.hid hk6; have HL6 := Lib.hid hl6; clear ho6 hk6 hl6)
            | (go_at_call 16; refine Calls.mono (gOwnDeps 1 b nb eb base 16 ns x _ (by exact HG.out)) ?_; rintro e w5 ⟨v5, rfl, ho5, hk5⟩; obtain ⟨fs, m1, m2, m3⟩ := ho5; have HFL : Hid ((List.zipWith Dp.row (depsOf ns x) fs).length ≤ 1000) := Lib.hid (by rw [zip_len m1]; exact hdl); have M1 := Lib.hid m1; have M2 := Lib.hid m2; have M3 := Lib.hid m3; have HK5 := Lib.hid hk5; clear m1 m2 m3 hk5))
          have hag6 : AG w6 mb g Bz v6 (L ++ depsOf ns x) := AG.app HAVL.out N1.out N3.out HK5.out M1.out M3.out hmbs HGL.out hBw HO6.out HK6.out HL6.out
          have hk56 := HK6.out av.ownBlock.toList (by intro y hy; simp [hy])
          have hkw6 : Kept [] w2 w6 := (HWK.out.trans HK5.out).trans' hk56 (fun y hy => .inr (by have := (HAVL.out y (by simpa using hy)).1; omega))
          have hq6 : QI w6 Bz g off1 c1 (sq.drop (p + 1)) := (HQ1.out.kept HK5.out (by simp)).kept hk56 (fun hy => by have := (HAVL.out g (by simpa using hy)).2.2.2; exact this rfl)
          have hs6 : SeenI w6 mb sq := (HSEE.out.kept HK5.out (by simp)).kept hk56 (fun hy => by have := (HAVL.out mb (by simpa using hy)).2.2.1; exact this rfl)
          have HG6 := Lib.hid (HBT.out.gat.kept0 hkw6)
          have HAG6 := Lib.hid hag6
          have HKW6 := Lib.hid hkw6
          have HQ6 := Lib.hid hq6
          have HS6 := Lib.hid hs6
          have hsz6 : wi.heap.size ≤ w6.heap.size := by have := HK5.out.size; have := hk56.size; omega
          clear hag6 hk56 hkw6 hq6 hs6 HQ1 HAG HSEE HWK HG N1 N2 N3 M1 M2 M3 HO6 HK6 HL6 HFL HAVL hdl hlen HK5 c0
          go_upto_region 14 with (go_at_call 10; refine Calls.mono (gUses 1 b nb eb base 16 ns x _ (by exact HG6.out)) ?_; rintro e w8 ⟨v10, rfl, ho8, hk8⟩; have HO8 := Lib.hid ho8.rows'; have HK8 := Lib.hid hk8; clear ho8 hk8)
          obtain ⟨ua, uc, rfl, u1, u2, uor⟩ := HO8.out.ints
          have UOR := Lib.hid uor
          have hul := usesOf_len HBT.out x
          have hsz8 := HK8.out.size
          have HRNG : Hid (∀ u ∈ usesOf ns x, 1 ≤ u ∧ u ≤ 16) := Lib.hid (fun u hu => usesOf_rng HBT.out hu)
          clear uor HO8
          go_wp2_with fail
          go_loopw [6, 11] (fun tv i wr => ∃ (q g' off' cap' n' : Nat) (sq' : List Int), q ≤ (usesOf ns x).length ∧ i = .int .i64 q ∧ tv = .slice (some ⟨g', off', none⟩) n' cap' ∧ Hid (n' = (sq'.drop (p + 1)).length) ∧ Hid (SrchI ns α sq' p x q) ∧ Hid (sq'.take (p + 1) = sq.take (p + 1)) ∧ Hid (QI wr Bz g' off' cap' (sq'.drop (p + 1))) ∧ Hid (SeenI wr mb sq') ∧ (g' = g ∨ w8.heap.size ≤ g') ∧ Hid (Kept [mb, g] w8 wr)) (fun _ i _ => (usesOf ns x).length - (intOf i).toNat)
          case atStart => exact ⟨0, g, off1, c1, m, sq, Nat.zero_le _, rfl, rfl, HN1.out, HSI.out, rfl, HQ6.out.kept HK8.out (by simp), HS6.out.kept HK8.out (by simp), .inl rfl, Kept.refl _ _⟩
          case round =>
            obtain ⟨q, g', off', cap', n', sq', hq, rfl, rfl, hn', hsi, htk, hqi, hse, hgg, hkr⟩ := hrel
            obtain ⟨wj, hwj⟩ : ∃ wj : World, wj = wr := ⟨_, rfl⟩
            subst hwj
            have hgm' : g' ≠ mb := by have := HGL.out; omega
            have hsl' := seen_len HBT.out ha1 hlt hsi.out.reach hsi.out.nodup
            have hpl' : p < sq'.length := (List.getElem?_eq_some_iff.1 hsi.out.at_).1
            by_cases hqx : q < (usesOf ns x).length
            · obtain ⟨ub, uo, rfl, hub1, hub2, hur⟩ := UOR.out.resolve_left (by intro h; rw [h] at hqx; simp at hqx)
              obtain ⟨u, hu⟩ : ∃ u, (usesOf ns x)[q]? = some u := ⟨(usesOf ns x)[q], by simp⟩
              have cq := hkr.out.cell' (hur q u hu) (by have := HGL.out; simp; omega)
              obtain ⟨hu1, hu2⟩ := HRNG.out u (List.mem_of_getElem? hu)
              have hlk := hse.out.look u
              have HU := Lib.hid hu
              have hub : ub ≠ mb := by omega
              have hn17 : n' ≤ 1000000 := by rw [hn'.out]; simp only [List.length_drop]; omega
              clear hur hu UOR
              by_cases hin : u ∈ sq'
              · have hlk' : (Instr.lookup 49 (.map (some mb)) (.int .i64 u) false).run Tryz.prog wj = .ok (.bool true) wj := by rw [hlk]; simp [hin]
                have HIN := Lib.hid hin
                clear hlk hin
                go_wp2_with fail
                go_roundw
                case rel => exact ⟨q + 1, g', off', cap', n', sq', by omega, by go_num, rfl, hn'.out, hsi.out.old HU.out HIN.out, htk.out, hqi.out, hse.out, hgg, hkr.out⟩
                case measure => simp [intOf]; omega
              · have hlk' : (Instr.lookup 49 (.map (some mb)) (.int .i64 u) false).run Tryz.prog wj = .ok (.bool false) wj := by rw [hlk]; simp [hin]
                have HIN := Lib.hid hin
                obtain ⟨es, ct, m1, m2, m3⟩ := hse.out
                have HM1 := Lib.hid m1
                have HM2 := Lib.hid m2
                have HM3 := Lib.hid m3
                have HNO : Hid (∀ e ∈ es, e.key ≠ .int .i64 u) := Lib.hid (fun e he hk => hin ((m3 u).1 ⟨e, he, hk⟩))
                clear hlk hin m1 m2 m3
                have d1 : decide (u < 1) = false := by simpa using hu1
                have d2 : decide (u > 16) = false := by simpa using hu2
                go_upto_region 20 with fail
                go_upto_region 21 with (refine wpList_gmap_new rfl (.tmp 72) (.tmp 76) (.const (.bool true)) (.inl rfl) key_int Tryz.underlying49 (.int .i64 u) (.bool true) rfl rfl rfl HM1.out ⟨_, rfl⟩ HNO.out ?_; intro w9 hm9 hk9 hz9)
                have cq9 := hk9.cell' cq (by simpa using hub)
                have HS9 : Hid (SeenI w9 mb (sq' ++ [u])) := Lib.hid (SeenI.add HM2.out HM3.out hm9)
                have HQ9 := Lib.hid (hqi.out.kept hk9 (by simpa using hgm'))
                have HK9 := Lib.hid hk9
                have hsz9 : wj.heap.size ≤ w9.heap.size := hk9.size
                have hszj : w8.heap.size ≤ wj.heap.size := hkr.out.size
                clear hm9 hk9 hz9 hlk' cq HM1 HM2 HM3 HNO
                go_upto_region 16 with (refine wpList_append_qn rfl (.tmp 77) (.tmp 82) 22 rfl ii Tryz.underlying22 hii0 hii1 hii2 hii3 (y := u) (h := w9.heap.size) (HQ9.out.kept ((Kept.refl [] _).alloc _) (by simp)) hn'.out rfl rfl ((Blk.new w9 [.int .i64 u] 3).cell 0 _ rfl) hn17 (by simp; omega) ?_; intro g2 off2 cap2 w10 hq2 hk10 hg2; have HQ10 := Lib.hid hq2; have HK10 := Lib.hid hk10; have HG2 := Lib.hid hg2; clear hq2 hk10 hg2)
                go_wp2
                have hkA : Kept [g'] w9 w10 := ((Kept.refl [g'] w9).alloc _).trans HK10.out
                have hg2' : g2 = g' ∨ w9.heap.size ≤ g2 := by
                  rcases HG2.out with h | h
                  · exact .inl h
                  · simp at h; exact .inr (by omega)
                go_roundw
                case rel =>
                  refine ⟨q + 1, g2, off2, cap2, n' + 1, sq' ++ [u], by omega, by go_num, rfl, ?_, hsi.out.new HU.out HIN.out, ?_, ?_, HS9.out.kept hkA (by simpa using Ne.symm hgm'), ?_, ?_⟩
                  · rw [Hid, List.drop_append_of_le_length (by omega), List.length_append, List.length_singleton, hn'.out]
                  · rw [Hid, List.take_append_of_le_length (by omega)]; exact htk.out
                  · rw [List.drop_append_of_le_length (by omega)]; exact HQ10.out
                  · rcases hg2' with h | h
                    · rcases hgg with h' | h'
                      · exact .inl (h.trans h')
                      · exact .inr (by omega)
                    · exact .inr (by omega)
                  · refine (hkr.out.trans (HK9.out.mono (by simp))).trans' hkA (fun y hy => ?_)
                    simp at hy
                    subst hy
                    rcases hgg with h' | h'
                    · exact .inl (by simp [h'])
                    · exact .inr h'
                case measure => simp [intOf]; omega
            · have hfin := hsi.out.leave (by omega)
              have HFIN := Lib.hid hfin
              have hag := (HAG6.out.kept HK8.out (by simp)).over hkr.out hgg
              have HAGF := Lib.hid hag
              clear hfin hag UOR
              go_wp2_with fail
              go_roundg (17 - (p + 1))
              case rel =>
                have hszj := hkr.out.size
                refine ⟨sq', p + 1, g', off', cap', n', rfl, rfl, hn'.out, HFIN.out, by omega, hqi.out, hse.out, ?_, hgm', by omega, by omega, (HKW6.out.trans HK8.out).trans' hkr.out (fun y hy => ?_)⟩
                · rw [htk.out, HTK.out]; exact HAGF.out
                · have := HGB.out
                  simp at hy
                  exact .inr (by omega)
              case measure => omega
        · have hn00 : n = 0 := by omega
          have hps : p = sq.length := by
            have h1 := hn.out
            have h2 := hsr.out.le
            simp only [List.length_drop] at h1
            omega
          subst hps
          have hsr' := hsr.out
          have hlaw := hsr'.law HBT.out ha1 hlt
          have hag' := hag.out
          rw [List.take_length] at hag'
          have hin9 : ∀ y ∈ (sq.map (depsOf ns)).flatten, y ∈ nine := fun y hy => by
            obtain ⟨l, hl, hz⟩ := List.mem_flatten.1 hy
            obtain ⟨u, _, rfl⟩ := List.mem_map.1 hl
            exact depsOf_nine HBT.out.nine u y hz
          have hall := all_len HBT.out sq
          have hsl := seen_len HBT.out ha1 hlt hsr'.reach hsr'.nodup
          generalize (sq.map (depsOf ns)).flatten = L at hlaw hag' hin9 hall
          have HLAW := Lib.hid hlaw
          have HIN9 := Lib.hid hin9
          have HALL := Lib.hid (show L.length ≤ 100000 by omega)
          have HDL : Hid (DL 1 (fun _ => True) wi u8 L) := Lib.hid ((DL.good 1).mono (Gr.rd (DR.good 1) (Gr.mono (DR.good 1) hag'.1 (Nat.le_refl _) (S' := fun _ => True) (fun _ _ _ => trivial)) (fun _ _ => trivial)) (fun _ _ h => h))
          have HG := Lib.hid (HBT.out.gat.kept0 hkr)
          have HTW : Hid (Tabs w.heap.size wi) := Lib.hid (HTB.out.kept0 (HK.out.trans hkr))
          have HWK := Lib.hid hkr
          obtain ⟨la, lc, rfl, _⟩ := HDL.out.form
          have hsw : w.heap.size ≤ wi.heap.size := (HK.out.trans hkr).size
          subst hn00
          have HFEW : Hid ((uqD [L].flatten).length < 20) := Lib.hid (by
            have h1 := uq_few (Q := nine) (l := [L].flatten) (fun y hy => ⟨y, HIN9.out y (by simpa using hy), rfl, rfl⟩)
            rw [nine_len] at h1
            omega)
          clear hn hsr hsr' hlaw hag hag' hin9 hall hqi hse hkr
          go_wp2_with (first
            | (go_at_call 18; refine Calls.mono (gAllDeps 1 w.heap.size b nb eb base 16 ns nine (by decide) (fun x hx y hy => nine_fit y (HBT.out.nine x hx y hy)) HBT.out.closed HBS2.out α _ (by exact HG.out) (by exact HTW.out)) ?_; rintro e w9 ⟨v9, rfl, hd9, hk9⟩; have HD9 := Lib.hid hd9; have HK9 := Lib.hid hk9; clear hd9 hk9)
            | (go_at_call 19; refine Calls.mono (mergeDeps 1 w.heap.size (S := fun _ => True) _ [L] _ (by exact HTW.out.kept0 (HK9.out.alloc _)) (by have := HK9.out.size; simp; omega) (by exact one_list HDL.out HK9.out) (by simp) (by intro l hl; simp at hl; rw [hl]; exact HALL.out) (by intro l hl x hx; simp at hl; rw [hl] at hx; exact ⟨(nine_fit x (HIN9.out x hx)).1, (nine_fit x (HIN9.out x hx)).2.1⟩) (by exact HFEW.out)) ?_; rintro e w10 ⟨v10, rfl, hgr, hk10⟩; have HD10 : Hid (DL 1 (fun _ => True) w10 v10 (allDeps ns α)) := (by have h1 := Gr.rd (DR.good 1) hgr (fun y h => h); rw [show [L].flatten = L by simp, HLAW.out] at h1; exact (DL.good 1).mono h1 (fun _ _ _ => trivial)); have HK10 := Lib.hid ((HK9.out.alloc (.cells #[.slice la L.length lc] 33)).trans hk10); have HKB := Lib.hid (((Kept.refl [] w9).alloc (.cells #[.slice la L.length lc] 33)).trans hk10); clear hgr hk10)
            | (go_at_call 17; refine Calls.mono (eqDeps 1 (S := fun _ => True) (S' := fun _ => True) _ _ (allDeps ns α) _ (by exact (DL.good 1).mono ((DL.good 1).kept HD9.out HKB.out (by simp)) (fun _ _ _ => trivial)) (by exact HD10.out)) ?_; rintro e w11 ⟨rfl, hk11⟩))
          go_roundw
          case rel => exact ⟨α + 1, by omega, by omega, by go_num, (HWK.out.trans HK10.out).trans hk11⟩
          case measure => simp [intOf]; omega
    · have HKE := Lib.hid (HK.out.trans hkw)
      have hTE : Hid (Tabs w.heap.size wo) := Lib.hid (HTB.out.kept0 HKE.out)
      have hsz := HKE.out.size
      go_wp2_with (go_at_call 12; refine Calls.mono (sane w.heap.size _ (by exact hTE.out) (by exact hsz)) ?_; rintro e w6 ⟨rfl, hk6⟩)
      go_ret
      exact ⟨rfl, HKE.out.trans hk6⟩
end Go.Proofs.YtkldomkooleecaaGreatDoor
