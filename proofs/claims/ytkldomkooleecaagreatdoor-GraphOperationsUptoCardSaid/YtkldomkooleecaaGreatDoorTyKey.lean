/- Walks: the key of a type (own.TypeKey). -/
import Derived.Test.YtkldomkooleecaaGreatDoorQuoteC
import Derived.Test.YtkldomkooleecaaGreatDoorTKey
import Derived.Lib.ItoaLen
import Derived.Lib.LaidPrint
import Derived.Laws.BytesArg
namespace Go.Proofs.YtkldomkooleecaaGreatDoor
open Go.RowKit

mutual
/-- Numbers of 64 bits, and how long the key can be. -/
def tyOk : Ty → Prop
  | .mk k _ i l => (-9223372036854775808 ≤ k ∧ k ≤ 9223372036854775807) ∧ (-9223372036854775808 ≤ i ∧ i ≤ 9223372036854775807) ∧ tysOk l
def tysOk : List Ty → Prop
  | [] => True
  | a :: l => tyOk a ∧ tysOk l
end
mutual
def tyW : Ty → Nat
  | .mk _ n _ l => 80 + 10 * n.size + tysW l
def tysW : List Ty → Nat
  | [] => 0
  | a :: l => tyW a + tysW l
end
theorem tysOk_get : ∀ {l : List Ty}, tysOk l → ∀ {k : Nat} {x : Ty}, l[k]? = some x → tyOk x
  | a :: l, h, 0, x, hx => by simp at hx; subst hx; exact h.1
  | a :: l, h, k + 1, x, hx => tysOk_get (l := l) h.2 (by simpa using hx)
theorem tysOk_take : ∀ {l : List Ty}, tysOk l → ∀ k : Nat, tysOk (l.take k)
  | [], _, k => by simp [tysOk]
  | a :: l, h, 0 => by simp [tysOk]
  | a :: l, h, k + 1 => by rw [List.take_succ_cons]; exact ⟨h.1, tysOk_take h.2 k⟩
theorem tysW_take : ∀ (l : List Ty) (k : Nat) (x : Ty), l[k]? = some x → tysW (l.take k) + tyW x ≤ tysW l
  | [], k, x, h => by simp at h
  | a :: l, 0, x, h => by simp at h; subst h; simp [tysW]
  | a :: l, k + 1, x, h => by
    have := tysW_take l k x (by simpa using h)
    simp only [List.take_succ_cons, tysW]
    omega
theorem tkeys_append (T : Lib.PrintTabs) : ∀ (l m : List Ty), tkeys T (l ++ m) = tkeys T l ++ tkeys T m
  | [], m => by simp [tkeys]
  | a :: l, m => by rw [List.cons_append, tkeys, tkeys, tkeys_append T l m, List.append_assoc]
theorem inum_len {n : Int} (h : -9223372036854775808 ≤ n ∧ n ≤ 9223372036854775807) : (inum n).length ≤ 21 := by
  simpa [inum] using Lib.itoa_length_le n h.1 h.2
theorem inum_cells (n : Int) : Lib.intCells (inum n) = Lib.byteCells (Lib.itoa n) := by simp [Lib.intCells, Lib.byteCells, inum]
mutual
theorem tkey_len (T : Lib.PrintTabs) : ∀ x : Ty, tyOk x → (tkey T x).length ≤ tyW x
  | .mk k n i l, h => by
    have h1 := inum_len h.1
    have h2 := inum_len h.2.1
    have h3 := Lib.quoteZ_length_le T n
    have h4 := tkeys_len T l h.2.2
    rw [tkey, tyW]
    simp only [List.length_append, List.length_cons, List.length_nil]
    omega
theorem tkeys_len (T : Lib.PrintTabs) : ∀ l : List Ty, tysOk l → (tkeys T l).length ≤ tysW l
  | [], _ => by simp [tkeys]
  | a :: l, h => by
    rw [tkeys, tysW, List.length_append]
    have := tkey_len T a h.1
    have := tkeys_len T l h.2
    omega
end

/-- The table of powers of ten. -/
def IT (w : World) : Prop := Lib.TabBelow Tryz.prog w.heap.size w "internal/strconv.uint64pow10" .u64 Lib.pow10Tab
theorem IT.below {w w' : World} (h : IT w) (k : Below w.heap.size w w') : IT w' := fun w2 h2 => h w2 ⟨h2.os.trans k.os, h2.tape.trans k.tape, h2.output.trans k.output, Nat.le_trans k.size h2.size, fun i hi => (h2.block i (Nat.lt_of_lt_of_le hi k.size)).trans (k.block i hi)⟩

/-- The tables of the library, laid below base. -/
def Tabs (base : Nat) (w : World) : Prop := ∃ W : World, W.heap.size ≤ base ∧ (PT Lib.goPrintTabs W ∧ UT W ∧ IT W) ∧ Below W.heap.size W w
theorem Tabs.kept {base : Nat} {w w' : World} {M : List Nat} (h : Tabs base w) (k : Kept M w w') (hm : ∀ x ∈ M, base ≤ x) : Tabs base w' := by
  obtain ⟨W, h1, h2, h3⟩ := h
  exact ⟨W, h1, h2, ⟨k.os.trans h3.os, k.tape.trans h3.tape, k.output.trans h3.output, Nat.le_trans h3.size k.size, fun i hi => (k.block i (Nat.lt_of_lt_of_le hi h3.size) (fun hx => by have := hm i hx; omega)).trans (h3.block i hi)⟩⟩
theorem Tabs.kept0 {base : Nat} {w w' : World} (h : Tabs base w) (k : Kept [] w w') : Tabs base w' := h.kept k (by simp)
theorem Tabs.all {base : Nat} {w : World} (h : Tabs base w) : PT Lib.goPrintTabs w ∧ UT w ∧ IT w := by
  obtain ⟨W, h1, ⟨h2, h3, h4⟩, h5⟩ := h
  exact ⟨h2.below h5, h3.below h5, h4.below h5⟩

section
variable {T : Lib.PrintTabs} {n : Nat} {v : Value} {xs : List Value} {W0 W1 : World}
theorem OB.here {B : Nat} {w : World} (h : OB B v n xs W0 W1 w) : OB B v n xs W0 w w := ⟨h.row, h.bel, h.le, Lib.OthersKept.refl _ _ _, h.one⟩
theorem OB.from {B : Nat} {v' : Value} {n' : Nat} {xs' : List Value} {w w' : World} (h : OB B v n xs W0 W1 w) (k : OB B v' n' xs' W0 w w') : OB B v' n' xs' W0 W1 w' := ⟨k.row, k.bel, k.le, h.oth.trans k.oth, k.one⟩
theorem OB.blk {B : Nat} {w : World} (h : OB B v n xs W0 W1 w) {b : Nat} {cs : List Value} {t : TypeId} (hb : Blk W1 b cs t) (ht : t ≠ 5) : Blk w b cs t :=
  h.oth b _ hb (by simp) (fun c fz e => by cases e; exact ht rfl)

theorem appInt (i : Int) (hi : -9223372036854775808 ≤ i ∧ i ≤ 9223372036854775807) (w : World) (hb : OB W0.heap.size v n xs W0 W1 w) (hn : n + 21 ≤ 140737488355328) (hI : IT W0) :
    Calls Tryz.prog 70 #[v, .int .i64 i, .int .i64 10] w fun e w' => ∃ v', e = .returned v' ∧ OB W0.heap.size v' (n + (inum i).length) (xs ++ Lib.intCells (inum i)) W0 W1 w' := by
  refine Calls.mono (Any.strconv_AppendInt_10 Tryz.laysM176 W0.heap.size n i hi.1 hi.2 v xs w hb.row hb.le hn (hI.on hb.bel)) ?_
  rintro e w' ⟨v', rfl, h1, h2, h3⟩
  refine ⟨v', rfl, ?_, hb.bel.trans h2, Nat.le_trans hb.le h2.size, hb.oth.trans h3, fun u hu => ?_⟩
  · rw [inum_cells, show (inum i).length = (Lib.itoa i).length by simp [inum]]
    exact h1
  · rcases List.mem_append.1 hu with hu | hu
    · exact hb.one u hu
    · unfold Lib.intCells at hu
      obtain ⟨y, _, rfl⟩ := List.mem_map.1 hu
      rfl

/-- What a call for one type does. -/
def KeyCall (T : Lib.PrintTabs) (W0 : World) (x : Ty) (e : Value) : Prop :=
  ∀ (v : Value) (n : Nat) (xs : List Value) (W1 w : World), OB W0.heap.size v n xs W0 W1 w → n + tyW x ≤ 140737488355328 →
    Calls Tryz.prog 57 #[v, .agg #[.int .i64 x.kind, .string x.name, .int .i64 x.index, e]] w fun q w' => ∃ v', q = .returned v' ∧ OB W0.heap.size v' (n + (tkey T x).length) (xs ++ Lib.intCells (tkey T x)) W0 W1 w'

set_option maxRecDepth 1000000 in
set_option maxHeartbeats 6400000 in
theorem keyStep (hT : PT T W0) (hU : UT W0) (hI : IT W0) (xk xi : Int) (xn : ByteArray) (l : List Ty) (a : Option Addr) (c : Nat) (hok : tyOk (.mk xk xn xi l)) (hll : l.length ≤ 1000)
    (hel : l = [] ∨ ∃ b off, a = some ⟨b, off, none⟩ ∧ b < W0.heap.size ∧ ∀ (k : Nat) (y : Ty), l[k]? = some y → ∃ qa qc, W0.rangeAt b (off + k * 4) (y.row (.slice qa y.args.length qc)) ∧ KeyCall T W0 y (.slice qa y.args.length qc)) :
    KeyCall T W0 (.mk xk xn xi l) (.slice a l.length c) := by
  intro v n xs W1 w hb hn
  simp only [Ty.kind, Ty.name, Ty.index]
  have hn' : n + (80 + 10 * xn.size + tysW l) ≤ 140737488355328 := hn
  have l1 := inum_len hok.1
  have l2 := inum_len hok.2.1
  have l3 := Lib.quoteZ_length_le T xn
  have l4 := tkeys_len T l hok.2.2
  have HT := Lib.hid hT
  have HU := Lib.hid hU
  have HI := Lib.hid hI
  have HEL := Lib.hid hel
  have HOK := Lib.hid hok
  clear hT hU hI hel hok hn
  go_enter Tryz.func57, Tryz.ntmps57
  obtain ⟨wA, hwA⟩ : ∃ wA : World, wA = w.alloc (.cells #[.int .i64 xk, .string xn, .int .i64 xi, .slice a l.length c] 39) := ⟨_, rfl⟩
  have hbA : OB W0.heap.size v n xs W0 W1 wA := by rw [hwA]; exact hb.alloc _
  have HB0 : Hid (Blk wA w.heap.size [.int .i64 xk, .string xn, .int .i64 xi, .slice a l.length c] 39) := by rw [hwA]; exact Blk.new _ _ _
  have HBA := Lib.hid hbA
  have hb0 : OB W0.heap.size v n xs W0 wA wA := hbA.here
  have HC0 := Lib.hid hb0
  clear hb hbA hb0
  obtain ⟨⟨z0, z1, z2, z3⟩, _⟩ := HB0.out.four
  obtain ⟨A, hA⟩ : ∃ A, A = w.heap.size := ⟨_, rfl⟩
  go_wp2_with fail
  rw [← hwA]
  refine Calls.mono (appInt xk HOK.out.1 _ HC0.out (by omega) HI.out) ?_
  rintro e w1 ⟨v1, rfl, hb1⟩
  clear z0 z1 z2 z3
  rw [← hA] at HB0 ⊢
  clear hwA hA
  have HC1 := Lib.hid hb1
  clear hb1
  obtain ⟨⟨z0, z1, z2, z3⟩, _⟩ := (HC1.out.blk HB0.out (by decide)).four
  go_wp2_with (first
    | (refine wpList_ob rfl _ (.tmp 12) rfl rfl [.int .u8 44] (by simp [Value.oneCell']) HC1.out rfl (by simp; omega) ?_; intro v2 w2 hb2; have HC2 := Lib.hid hb2; clear hb2; clear z0 z1 z2 z3; obtain ⟨⟨z0, z1, z2, z3⟩, _⟩ := (HC2.out.blk HB0.out (by decide)).four)
    | (go_at_call 71; refine Calls.mono (appendQuote xn _ HC2.out (by simp; omega) HT.out HU.out) ?_; rintro e w3 ⟨v3, rfl, hb3⟩; have HC3 := Lib.hid hb3; clear hb3; clear z0 z1 z2 z3; obtain ⟨⟨z0, z1, z2, z3⟩, _⟩ := (HC3.out.blk HB0.out (by decide)).four)
    | (go_at_call 70; refine Calls.mono (appInt xi HOK.out.2.1 _ HC3.out (by simp; omega) HI.out) ?_; rintro e w4 ⟨v4, rfl, hb4⟩; have HC4 := Lib.hid hb4; clear hb4; clear z0 z1 z2 z3; obtain ⟨⟨z0, z1, z2, z3⟩, _⟩ := (HC4.out.blk HB0.out (by decide)).four)
    | (refine wpList_ob rfl _ (.tmp 23) rfl rfl [.int .u8 40] (by simp [Value.oneCell']) HC4.out rfl (by simp; omega) ?_; intro v5 w5 hb5; have HC5 := Lib.hid hb5; clear hb5; clear z0 z1 z2 z3; obtain ⟨⟨z0, z1, z2, z3⟩, _⟩ := (HC5.out.blk HB0.out (by decide)).four))
  clear z0 z1 z2 z3
  obtain ⟨X, hX⟩ : ∃ X, X = inum xk ++ 44 :: (Lib.quoteZ T xn ++ (inum xi ++ [40])) := ⟨_, rfl⟩
  have hXl : X.length ≤ 21 + 1 + (10 * xn.size + 2) + 21 + 1 := by rw [hX]; simp; omega
  have h5 : OB W0.heap.size v5 (n + X.length) (xs ++ Lib.intCells X) W0 W1 w5 := by
    have := HBA.out.from HC5.out
    rw [hX]
    simpa [Lib.intCells, List.append_assoc, Nat.add_assoc, Nat.add_comm, Nat.add_left_comm] using this
  have H5 := Lib.hid h5
  have HX := Lib.hid hX
  clear h5 hX HC1 HC2 HC3 HC4 HC5 HB0 HC0 HBA
  go_loopw [0, 28] (fun u q wr => ∃ k : Nat, k ≤ l.length ∧ q = .int .i64 k ∧ Hid (OB W0.heap.size u (n + X.length + (tkeys T (l.take k)).length) (xs ++ Lib.intCells X ++ Lib.intCells (tkeys T (l.take k))) W0 W1 wr)) (fun _ q _ => l.length - (intOf q).toNat)
  case atStart => exact ⟨0, Nat.zero_le _, rfl, by simpa [Hid, tkeys, Lib.intCells] using H5.out⟩
  case round =>
    obtain ⟨k, hk, rfl, hob⟩ := hrel
    obtain ⟨wo, hwo⟩ : ∃ wo : World, wo = wr := ⟨_, rfl⟩
    subst hwo
    by_cases hlt : k < l.length
    · have hne : l ≠ [] := by rintro rfl; simp at hlt
      obtain ⟨b1, o1, rfl, hb1, hc1⟩ := HEL.out.resolve_left hne
      obtain ⟨y, hy⟩ : ∃ y, l[k]? = some y := ⟨l[k], by simp⟩
      obtain ⟨qa, qc, hrq, hkc⟩ := hc1 k y hy
      have hW := tysW_take l k y hy
      have hL1 := tkey_len T y (tysOk_get HOK.out.2.2 hy)
      have hL2 : (tkeys T (l.take k)).length ≤ tysW (l.take k) := tkeys_len T _ (tysOk_take HOK.out.2.2 k)
      have hrg : Hid (wo.rangeAt b1 (o1 + k * 4) (y.row (.slice qa y.args.length qc))) := fun j u hj => (hob.out.bel.cell (by simpa using hb1)).trans (hrq j u hj)
      have HKC := Lib.hid hkc
      have HY := Lib.hid hy
      obtain ⟨yk, yn, yi, yl⟩ := y
      simp only [Ty.row, Ty.kind, Ty.name, Ty.index, Ty.args] at hrg HKC ⊢
      clear hrq hkc hy hc1 hne HEL
      go_wp2_with (first
        | (refine wpList_load_mid rfl 39 (.tmp 30) rfl b1 (o1 + k * 4) rfl [.int .i64 yk, .string yn, .int .i64 yi, .slice qa yl.length qc] _ hrg.out Tryz.underlying39 rfl (by kernel_rfl) ?_)
        | (go_at_call 57; refine Calls.mono (HKC.out _ _ _ W1 _ (hob.out.alloc _) (by omega)) ?_; rintro e w6 ⟨v6, rfl, hb6⟩; have HB6 := Lib.hid hb6; clear hb6))
      go_roundw
      case rel =>
        refine ⟨k + 1, by omega, by go_num, ?_⟩
        rw [Hid, List.take_add_one, HY.out, tkeys_append]
        simpa [tkeys, Lib.intCells, List.append_assoc, Nat.add_assoc] using HB6.out
      case measure => simp [intOf]; omega
    · have hkl : k = l.length := by omega
      subst hkl
      rw [Hid, List.take_length] at hob
      have HOB := Lib.hid hob
      clear hob
      go_wp2_with (refine wpList_ob rfl _ (.tmp 37) rfl rfl [.int .u8 41] (by simp [Value.oneCell']) HOB.out rfl (by simp; omega) ?_; intro v7 w7 hb7; have HB7 := Lib.hid hb7; clear hb7)
      go_ret
      refine ⟨_, rfl, ?_⟩
      have h7 := HB7.out
      rw [tkey]
      rw [HX.out] at h7
      simpa [Lib.intCells, List.append_assoc, Nat.add_assoc, Nat.add_comm, Nat.add_left_comm] using h7

theorem keyCall (hT : PT T W0) (hU : UT W0) (hI : IT W0) : ∀ (d : Nat) (S : Nat → Prop) (x : Ty) (e : Value), TR d S W0 e x.args → tyOk x → KeyCall T W0 x e
  | 0, S, .mk xk xn xi l, e, h, hok => by
    obtain ⟨a, c, rfl, h1, h2, h3⟩ := h.form
    exact keyStep hT hU hI xk xi xn l a c hok h3 (.inl h.1)
  | d + 1, S, .mk xk xn xi l, e, h, hok => by
    obtain ⟨a, c, rfl, h1, h2, h3⟩ := h.form
    refine keyStep hT hU hI xk xi xn l a c hok h3 ?_
    obtain ⟨a', c', e', g1, g2, g3⟩ := h.2.form
    cases e'
    rcases g3 with g3 | ⟨b, off, rfl, _, hb, hc⟩
    · exact .inl g3
    · refine .inr ⟨b, off, rfl, hb, fun k y hy => ?_⟩
      obtain ⟨q, hr, _, hq⟩ := hc k y hy
      obtain ⟨qa, qc, rfl, _⟩ := hq.form
      exact ⟨qa, qc, hr, keyCall hT hU hI d S y _ hq (tysOk_get hok.2.2 hy)⟩

theorem keyNums_size (T : Lib.PrintTabs) (x : Ty) : (tkey T x).length ≠ 0 := by
  obtain ⟨c, l, h, _⟩ := tkey_head T x
  rw [h]; simp
/-- The key as a string. -/
def keyOf (x : Ty) : ByteArray := strOfNums (tkey Lib.goPrintTabs x)

theorem ob_cells {B n : Nat} {v : Value} {l : List Int} {W0 W1 w : World} (h : OB B v n (Lib.intCells l) W0 W1 w) (hn : n = l.length) (h0 : l.length ≠ 0) : ∃ g cap, v = .slice (some ⟨g, 0, none⟩) l.length cap ∧ ∀ i, i < l.length → w.cell? ⟨g, 0 + i, none⟩ = some (.int .u8 (l.getD i 0)) := by
  subst hn
  rcases h.row.2 with ⟨_, h2⟩ | ⟨g, cap, cur, rfl, hb, hg, h3, h4, h5, h6⟩
  · exact absurd h2 h0
  · refine ⟨g, cap, rfl, fun i hi => ?_⟩
    have := h.row.cells (g := g) rfl i (.int .u8 (l.getD i 0)) (by simp [Lib.intCells, List.getElem?_eq_getElem hi, List.getD])
    simpa [Addr.add_lit] using this

set_option maxRecDepth 100000 in
theorem typeKey (d base : Nat) {S : Nat → Prop} (x : Ty) (e : Value) (w : World) (hTb : Tabs base w) (h : TR d S w e x.args) (hok : tyOk x) (hW : tyW x ≤ 140737488355328) :
    Calls Tryz.prog 40 #[.agg #[.int .i64 x.kind, .string x.name, .int .i64 x.index, e]] w fun q w' => q = .returned (.string (keyOf x)) ∧ Kept [] w w' := by
  obtain ⟨hT, hU, hI⟩ := hTb.all
  have hk := keyCall hT hU hI d S x e h hok
  have hob : OB w.heap.size (.slice none 0 0) 0 [] w w w := ⟨⟨rfl, .inl ⟨rfl, rfl⟩⟩, Below.refl _ _, Nat.le_refl _, Lib.OthersKept.refl _ _ _, by simp⟩
  have HK := Lib.hid hk
  have HOB := Lib.hid hob
  clear hk hob hT hU hI h hTb
  go_enter Tryz.func40, Tryz.ntmps40
  go_wp2_with fail
  refine Calls.mono (HK.out _ _ _ w _ (HOB.out.alloc _) (by omega)) ?_
  rintro q w1 ⟨v1, rfl, hb1⟩
  have hk1 : Kept [] w w1 := Kept.ofBelow hb1.bel
  obtain ⟨g, cap, rfl, hcells⟩ := ob_cells (by simpa using hb1) (by simp) (keyNums_size _ x)
  have hcv := run_convert_bytes_arg (P := Tryz.prog) w1 105 5 Tryz.underlying105 Tryz.underlying5 g 0 _ cap (tkey Lib.goPrintTabs x) rfl hcells 9 Tryz.underlying9
  clear hb1 hcells
  go_wp2
  go_ret
  exact ⟨rfl, hk1⟩
end
end Go.Proofs.YtkldomkooleecaaGreatDoor
