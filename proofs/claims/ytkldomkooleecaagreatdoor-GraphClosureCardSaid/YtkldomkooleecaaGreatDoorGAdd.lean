/- Walks: adding a node. -/
import Derived.Test.YtkldomkooleecaaGreatDoorGAddP
namespace Go.Proofs.YtkldomkooleecaaGreatDoor
open Go.RowKit Go.Maps Go.MapKept

/-- An adding's turn. -/
inductive AddTurn (d : Nat) (w : World) (b nb eb base last : Nat) (ns : List Nd) (ds : List Dp) (us : List Int) : Ending → World → Prop
  | no {w' : World} (u : Int) (hu : u ∈ us) (hx : nodeOf ns u = none) (k : Kept [] w w') : AddTurn d w b nb eb base last ns ds us (.returned (.tuple #[.int .i64 0, .int .i64 7])) w'
  | yes {w' : World} (hu : ∀ u ∈ us, nodeOf ns u ≠ none) (dv uv : Value) (born : Nat) (h : GAt d w' b nb eb base (last + 1) (ns ++ [⟨((last + 1 : Nat) : Int), ds, asc us, dv, uv, born⟩])) (k : Kept [b, nb, eb] w w') :
      AddTurn d w b nb eb base last ns ds us (.returned (.tuple #[.int .i64 ((last + 1 : Nat) : Int), .int .i64 0])) w'

theorem asc_length (l : List Int) : (asc l).length ≤ l.length := by
  have := uq_len (srt l) []
  have h2 : (srt l).length = l.length := by simp [srt]
  unfold asc
  simp at this; omega

set_option maxRecDepth 100000 in
set_option maxHeartbeats 6400000 in
theorem gAdd (d : Nat) {S S' : Nat → Prop} (b nb eb base last : Nat) (ns : List Nd) (vd vu : Value) (ds : List Dp) (us : List Int) (w : World) (h : GAt d w b nb eb base last ns) (hd : DL d S w vd ds) (hu : Reads S' w vu 1 (irows us))
    (hS : ∀ x, S x → x ≠ b ∧ x ≠ nb ∧ x ≠ eb) (hS' : ∀ x, S' x → x ≠ b ∧ x ≠ nb ∧ x ≠ eb) (hl : last < 100000) (hdl : ds.length ≤ 1000) (hul : us.length ≤ 1000) :
    Calls Tryz.prog 22 #[.pointer (some ⟨b, 0, none⟩), vd, vu] w fun e w' => AddTurn d w b nb eb base last ns ds us e w' := by
  have HG := Lib.hid h
  have HD := Lib.hid hd
  have HUR := Lib.hid hu
  have HS := Lib.hid hS
  have HS' := Lib.hid hS'
  obtain ⟨a1, c1, rfl, _⟩ := hd.form
  obtain ⟨a2, c2, rfl, p1, p2, p3⟩ := hu.ints
  have P3 := Lib.hid p3
  have e0 := h.blk.cell 0 _ rfl
  clear h hd hu hS hS' p3
  have hge : ¬ ((100000 : Int) ≤ last) := by omega
  have HL := Lib.hid hl
  clear hl
  go_enter Tryz.func22, Tryz.ntmps22
  go_wp2
  go_loopw [19] (fun i wr => ∃ k : Nat, k ≤ us.length ∧ i = .int .i64 k ∧ Kept [] w wr ∧ Hid (∀ u ∈ us.take k, nodeOf ns u ≠ none)) (fun i _ => us.length - (intOf i).toNat)
  case atStart => exact ⟨0, Nat.zero_le _, rfl, Kept.refl _ _, by simp [Hid]⟩
  case round =>
    obtain ⟨k, hk, rfl, hkr, hno⟩ := hrel
    obtain ⟨wo, hwo⟩ : ∃ wo : World, wo = wr := ⟨_, rfl⟩
    subst hwo
    by_cases hlt : k < us.length
    · have hne : us ≠ [] := by intro h; rw [h] at hlt; simp at hlt
      obtain ⟨b3, o3, rfl, hSb, hb3, hc3⟩ := P3.out.resolve_left hne
      obtain ⟨u, hu⟩ := getp us k hlt
      have cx := hkr.cell' (hc3 k u hu) (by simp)
      have HU := Lib.hid hu
      clear hc3 hu hne P3
      cases hx : nodeOf ns u with
      | none =>
        have HX := Lib.hid hx
        clear hx
        go_wp2_with (go_at_call 28; refine (gHas d b nb eb base last ns u _ (by exact HG.out.kept0 hkr)).mono ?_; rintro e w1 ⟨rfl, hk1⟩; rw [HX.out]; have HK1 := Lib.hid hk1; clear hk1)
        go_ret2
        exact .no u (List.mem_of_getElem? HU.out) HX.out (hkr.trans HK1.out)
      | some x =>
        have HX := Lib.hid hx
        clear hx
        go_wp2_with (go_at_call 28; refine (gHas d b nb eb base last ns u _ (by exact HG.out.kept0 hkr)).mono ?_; rintro e w1 ⟨rfl, hk1⟩; rw [HX.out]; have HK1 := Lib.hid hk1; clear hk1)
        go_roundw
        case rel =>
          refine ⟨k + 1, by omega, by go_num, hkr.trans HK1.out, ?_⟩
          rw [Hid, List.take_add_one, HU.out]
          intro y hy
          rcases List.mem_append.1 hy with hy | hy
          · exact hno.out y hy
          · have : y = u := by simpa using hy
            rw [this, HX.out]; simp
        case measure => simp [intOf]; omega
    · have f0 := (HG.out.kept0 hkr).blk.cell 0 _ rfl
      have hns : ∀ u ∈ us, nodeOf ns u ≠ none := by
        have := hno.out
        rwa [show k = us.length by omega, List.take_length] at this
      have HNS := Lib.hid hns
      have f9 := (HG.out.kept0 hkr).blk.frozen 0
      have hw : IntKind.i64.wrap ((last : Int) + 1) = (last : Int) + 1 := IntWalk.i64_in _ (by omega)
      clear hns hno hge
      go_upto_region 10 with (fail)
      obtain ⟨wb, hwb⟩ : ∃ wb : World, wb = wo.setCell ⟨b, 0, none⟩ (.int .i64 ((last : Int) + 1)) := ⟨_, rfl⟩
      have hkb : Kept [b] wo wb := by rw [hwb]; exact (Kept.refl [b] wo).setCell (by simp) _
      have hbb : Blk wb b [.int .i64 ((last : Int) + 1), .map (some nb), .map (some eb)] 67 := by rw [hwb]; exact (HG.out.kept0 hkr).blk.set 0 _
      have HBB := Lib.hid hbb
      rw [← hwb]
      clear hwb f0 f9 hbb
      have HDB : Hid (∀ W, Kept [] wb W → Calls Tryz.prog 36 #[.slice a1 ds.length c1] W fun e w' => ∃ v', e = .returned v' ∧ Gr (fun S w e (x : Dp) => DR d S w e x) Dp.row 7 45 (wb.heap.size ≤ ·) wb.heap.size w' v' ds ∧ Kept [] W w' ∧ Kept [] wb w') := Lib.hid (fun W hW => by
        refine (ownDeps d _ ds W ((DL.good d).kept ((DL.good d).kept ((DL.good d).kept HD.out hkr (by simp)) hkb (by intro x hx hs; exact (HS.out x hs).1 (by simpa using hx))) hW (by simp)) (by omega)).mono ?_
        rintro e w' ⟨v', rfl, ho, hk⟩
        have hz := hW.size
        exact ⟨v', rfl, Gr.mono (DR.good d) ho hz (fun y _ hy => Nat.le_trans hz hy), hk, hW.trans hk⟩)
      have HAB : Hid (∀ W, Kept [] wb W → Calls Tryz.prog 46 #[.slice a2 us.length c2] W fun e w' => ∃ v', e = .returned v' ∧ Own w' wb.heap.size 3 1 v' (irows (asc us)) ∧ Kept [] W w' ∧ Kept [] wb w') := Lib.hid (fun W hW => by
        refine (ascending _ us W ((HUR.out.kept hkr (by simp)).kept hkb (by intro x hx hs; exact (HS'.out x hs).1 (by simpa using hx)) |>.kept hW (by simp)) (by omega)).mono ?_
        rintro e w' ⟨v', rfl, ho, hk⟩
        exact ⟨v', rfl, ho.mono hW.size, hk, hW.trans hk⟩)
      obtain ⟨c, hmn⟩ := HG.out.nodes
      have HMN := Lib.hid ((hmn.kept hkr (by simp)).kept hkb (by simpa using HG.out.ne1.symm))
      have hnew : ∀ e ∈ ns.map Nd.ent, e.key ≠ .int .i64 ((last : Int) + 1) := by
        intro e he
        obtain ⟨y, hy, rfl⟩ := List.mem_map.1 he
        have := (HG.out.rng y hy).2
        intro hq
        have hq2 : y.num = (last : Int) + 1 := by simpa [Nd.ent] using hq
        omega
      have HNEW := Lib.hid hnew
      clear hmn hnew
      have HKF : Hid (∀ M w', Kept M wb w' → b ∉ M → w'.cell? ⟨b, 0, none⟩ = some (.int .i64 ((last : Int) + 1)) ∧ w'.cell? ⟨b, 1, none⟩ = some (.map (some nb))) := Lib.hid (fun M w' hk hn => ⟨(HBB.out.kept hk hn).cell 0 _ rfl, (HBB.out.kept hk hn).cell 1 _ rfl⟩)
      have hbnb : b ∉ [nb] := by simpa using HG.out.ne1
      go_region_held3 (fun w' => w'.cell? ⟨b, 0, none⟩ = some (.int .i64 ((last : Int) + 1)) ∧ w'.cell? ⟨b, 1, none⟩ = some (.map (some nb)))
        (first | with_reducible exact HKF.out _ _ (hkn _) hbnb | with_reducible exact HKF.out _ _ hk9 List.not_mem_nil | with_reducible exact HKF.out _ _ ((Kept.refl [] wb).drew) List.not_mem_nil)
        (first
          | (go_at_call 36; (refine Calls.mono (HDB.out _ (by first | exact hk9 | exact (Kept.refl [] wb).drew)) ?_; rintro q w3 ⟨qd, rfl, hqt, hqk, hk9⟩; obtain ⟨da, dc, rfl, _⟩ := hqt.shape; have HQD := Lib.hid hqt; (try (have HQU := Lib.hid (HQU.out.kept hqk (by simp)))); clear hqt; have hkn : ∀ ob, Kept [nb] wb (setO w3 nb ob) := fun ob => (hk9.nil).setO (.inl (by simp)) ob; (try (have hup := (HMN.out.kept hk9 (by simp)).update_new key_int Tryz.underlying64 (x := .int .i64 ((last : Int) + 1)) (v := .agg #[.slice da ds.length dc, .slice ua (asc us).length uc]) ⟨_, rfl⟩ HNEW.out))))
          | (go_at_call 46; (refine Calls.mono (HAB.out _ (by first | exact hk9 | exact (Kept.refl [] wb).drew)) ?_; rintro q w3 ⟨qu, rfl, hqt, hqk, hk9⟩; obtain ⟨ua, uc, rfl, _⟩ := hqt.shape; have HQU := Lib.hid hqt; (try (have HQD := Lib.hid (Gr.kept (DR.good d) HQD.out hqk (by simp) (by simp)))); clear hqt; have hkn : ∀ ob, Kept [nb] wb (setO w3 nb ob) := fun ob => (hk9.nil).setO (.inl (by simp)) ob; (try (have hup := (HMN.out.kept hk9 (by simp)).update_new key_int Tryz.underlying64 (x := .int .i64 ((last : Int) + 1)) (v := .agg #[.slice da ds.length dc, .slice ua (asc us).length uc]) ⟨_, rfl⟩ HNEW.out)))))
      have hm5 := (HMN.out.kept hk9 (by simp)).snoc (v := .agg #[.slice da ds.length dc, .slice ua (asc us).length uc]) (x := .int .i64 ((last : Int) + 1)) ⟨_, rfl⟩ HNEW.out
      have hk5 := hkn (.map (ns.map Nd.ent ++ [({ key := .int .i64 ((last : Int) + 1), val := .agg #[.slice da ds.length dc, .slice ua (asc us).length uc], born := c } : MapEntry)]).toArray (c + 1))
      have hk35 : Kept [nb] w3 (setO w3 nb (.map (ns.map Nd.ent ++ [({ key := .int .i64 ((last : Int) + 1), val := .agg #[.slice da ds.length dc, .slice ua (asc us).length uc], born := c } : MapEntry)]).toArray (c + 1))) := (Kept.refl _ _).setO (.inl (by simp)) _
      obtain ⟨w5, hw5⟩ : ∃ w5 : World, w5 = setO w3 nb (.map (ns.map Nd.ent ++ [({ key := .int .i64 ((last : Int) + 1), val := .agg #[.slice da ds.length dc, .slice ua (asc us).length uc], born := c } : MapEntry)]).toArray (c + 1)) := ⟨_, rfl⟩
      rw [← hw5] at hm5 hk5 hk35 ⊢
      clear hw5
      have hnlt := HG.out.lt2
      have hls := HG.out.lt4
      have hsw := hkr.size
      have hsb := hkb.size
      have HDT : Hid (DL d (base ≤ ·) w5 (.slice da ds.length dc) ds) := (DL.good d).kept (Gr.rd (DR.good d) (Gr.mono (DR.good d) HQD.out (base' := base) (S' := (base ≤ ·)) (by omega) (fun y _ hy => by omega)) (fun y hy => hy)) hk35 (by simp; omega)
      have HUT : Hid (Reads (base ≤ ·) w5 (.slice ua (asc us).length uc) 1 (irows (asc us))) := by
        have := HQU.out.rows'
        rw [irows_length] at this
        exact (this.mono (fun y _ hy => by omega)).kept hk35 (by simp; omega)
      have HM5 := Lib.hid hm5
      have HK5 := Lib.hid hk5
      have HB5 := Lib.hid (HBB.out.kept hk5 (by simpa using HG.out.ne1))
      have HE5 : Hid (EdgeA w5 eb ns ((last : Int) + 1) []) := EdgeA.start _ (((HG.out.edges.kept hkr (by simp)).kept hkb (by simpa using HG.out.ne2.symm)).kept hk5 (by simpa using HG.out.ne3.symm))
      have HSZ : Hid (w.heap.size ≤ wb.heap.size) := by show _ ≤ _; omega
      clear hup hm5 hk5 hk35 hqk hk9 hkn HQD HQU hbnb HKF HNEW HMN HAB HDB HBB hnlt hls hsw hsb
      go_wp2
      go_loopw [50] (fun q wr => ∃ k2 : Nat, k2 ≤ us.length ∧ q = .int .i64 k2 ∧ Kept [eb] w5 wr ∧ Hid (EdgeA wr eb ns ((last : Int) + 1) (us.take k2))) (fun q _ => us.length - (intOf q).toNat)
      case atStart => exact ⟨0, Nat.zero_le _, rfl, Kept.refl _ _, by rw [List.take_zero]; exact HE5⟩
      case round =>
        obtain ⟨k2, hk2, rfl, hkr2, hed⟩ := hrel
        obtain ⟨wi, hwi⟩ : ∃ wi : World, wi = wr := ⟨_, rfl⟩
        subst hwi
        have hbi := HB5.out.kept hkr2 (by simpa using HG.out.ne2)
        have f0 := hbi.cell 0 _ rfl
        have f2 := hbi.cell 2 _ rfl
        have HBI := Lib.hid hbi
        clear hbi
        by_cases hlt2 : k2 < us.length
        · have hne : us ≠ [] := by intro h; rw [h] at hlt2; simp at hlt2
          obtain ⟨b3, o3, rfl, hSb, hb3, hc3⟩ := P3.out.resolve_left hne
          obtain ⟨u, hu⟩ := getp us k2 hlt2
          have hnn := HS'.out _ hSb
          have cx := hkr2.cell' (HK5.out.cell' (hkb.cell' (hkr.cell' (hc3 k2 u hu) (by simp)) (by simpa using hnn.1)) (by simpa using hnn.2.1)) (by simpa using hnn.2.2)
          obtain ⟨es, ce, m1, m2, m3⟩ := hed.out
          have M1 := Lib.hid m1
          have M2 := Lib.hid m2
          have M3 := Lib.hid m3
          have HT := Lib.hid (show us.take (k2 + 1) = us.take k2 ++ [u] by rw [List.take_add_one, hu]; rfl)
          clear hc3 hu hne P3 m1 m2 m3 hed hnn hSb hb3
          have hwd : Kept [] wi wi.drew := (Kept.refl [] wi).drew
          have HKF2 : Hid (∀ M w', Kept M wi w' → b ∉ M → w'.cell? ⟨b, 0, none⟩ = some (.int .i64 ((last : Int) + 1)) ∧ w'.cell? ⟨b, 2, none⟩ = some (.map (some eb))) := Lib.hid (fun M w' hk hn => ⟨(HBI.out.kept hk hn).cell 0 _ rfl, (HBI.out.kept hk hn).cell 2 _ rfl⟩)
          have hbeb : b ∉ [eb] := by simpa using HG.out.ne2
          by_cases hin : ∃ e ∈ es, e.key = pairK ((last : Int) + 1) u
          · obtain ⟨e, he, hek⟩ := hin
            obtain ⟨i, hi⟩ := List.getElem?_of_mem he
            obtain ⟨ekey, ev, ebn⟩ := e
            simp only at hek
            subst hek
            have hup := (M1.out.kept hwd (by simp)).update_old key_pair Tryz.underlying65 hi (.bool true)
            have HM7 := Lib.hid ((M1.out.kept hwd (by simp)).set hi (.bool true))
            have hkn2 : Kept [eb] wi (setO wi.drew eb (.map (es.set i { key := pairK ((last : Int) + 1) u, val := .bool true, born := ebn }).toArray ce)) := (hwd.nil).setO (.inl (by simp)) _
            have HI := Lib.hid hi
            simp only [pairK] at hup hkn2
            clear hi he
            go_upto_region 14 with (fail)
            go_region_held3 (fun w' => w'.cell? ⟨b, 0, none⟩ = some (.int .i64 ((last : Int) + 1)) ∧ w'.cell? ⟨b, 2, none⟩ = some (.map (some eb)))
              (first | with_reducible exact HKF2.out _ _ hkn2 hbeb | with_reducible exact HKF2.out _ _ hwd List.not_mem_nil)
              (fail)
            go_wp2
            go_roundw
            case rel =>
              refine ⟨k2 + 1, by omega, by go_num, hkr2.trans hkn2, ?_⟩
              rw [Hid, HT.out]
              exact EdgeA.old M2.out HI.out rfl M3.out HM7.out
            case measure => simp [intOf]; omega
          · have hno : ∀ e ∈ es, e.key ≠ pairK ((last : Int) + 1) u := fun e he hk => hin ⟨e, he, hk⟩
            have hup := (M1.out.kept hwd (by simp)).update_new key_pair Tryz.underlying65 (x := pairK ((last : Int) + 1) u) (v := .bool true) ⟨_, _, rfl⟩ hno
            have HM7 := Lib.hid ((M1.out.kept hwd (by simp)).snoc (x := pairK ((last : Int) + 1) u) (v := .bool true) ⟨_, _, rfl⟩ hno)
            have hkn2 : Kept [eb] wi (setO wi.drew eb (.map (es ++ [({ key := pairK ((last : Int) + 1) u, val := .bool true, born := ce } : MapEntry)]).toArray (ce + 1))) := (hwd.nil).setO (.inl (by simp)) _
            simp only [pairK] at hup hkn2 HM7
            clear hin hno
            go_upto_region 14 with (fail)
            go_region_held3 (fun w' => w'.cell? ⟨b, 0, none⟩ = some (.int .i64 ((last : Int) + 1)) ∧ w'.cell? ⟨b, 2, none⟩ = some (.map (some eb)))
              (first | with_reducible exact HKF2.out _ _ hkn2 hbeb | with_reducible exact HKF2.out _ _ hwd List.not_mem_nil)
              (fail)
            go_wp2
            go_roundw
            case rel =>
              refine ⟨k2 + 1, by omega, by go_num, hkr2.trans hkn2, ?_⟩
              rw [Hid, HT.out]
              exact EdgeA.new M2.out M3.out HM7.out
            case measure => simp [intOf]; omega
        · go_wp2
          go_ret2
          have hfin := hed.out
          rw [show k2 = us.length by omega, List.take_length] at hfin
          have hkall : Kept [b, nb, eb] w wi := (((hkr.nil (M := [b, nb, eb])).trans (hkb.mono (by simp))).trans (HK5.out.mono (by simp))).trans (hkr2.mono (by simp))
          have hcast : ((last : Int) + 1) = ((last + 1 : Nat) : Int) := by omega
          have hgat : GAt d wi b nb eb base (last + 1) (ns ++ [⟨((last + 1 : Nat) : Int), ds, asc us, .slice da ds.length dc, .slice ua (asc us).length uc, c⟩]) := by
            have hed2 : Edges wi eb (ns ++ [⟨((last + 1 : Nat) : Int), ds, asc us, .slice da ds.length dc, .slice ua (asc us).length uc, c⟩]) := EdgeA.done (w := wi) (n := (last : Int) + 1) (us := us) (by simp) (fun y => asc_mem us y) hfin
            refine HG.out.added (w' := wi) ⟨((last + 1 : Nat) : Int), ds, asc us, .slice da ds.length dc, .slice ua (asc us).length uc, c⟩ (by simp) hkall (by rw [← hcast]; exact HBI.out) ⟨c + 1, ?_⟩ hed2 ⟨(DL.good d).kept HDT.out hkr2 (by have := HG.out.lt3; simp; omega), HUT.out.kept hkr2 (by have := HG.out.lt3; simp; omega), hdl, Nat.le_trans (asc_length us) hul⟩
            rw [List.map_append]
            have := HM5.out.kept hkr2 (by simpa using HG.out.ne3)
            simpa [Nd.ent] using this
          have hy := AddTurn.yes (d := d) (w := w) (us := us) HNS.out (.slice da ds.length dc) (.slice ua (asc us).length uc) c hgat hkall
          rw [← hcast] at hy
          exact hy
end Go.Proofs.YtkldomkooleecaaGreatDoor
