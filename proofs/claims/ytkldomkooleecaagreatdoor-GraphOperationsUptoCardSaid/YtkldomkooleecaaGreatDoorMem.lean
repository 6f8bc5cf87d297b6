/- What a walk needs of memory: what may have turned (Kept), slices as rows of cells (Reads, Own), and laws at single operations. No program is in sight here. -/
import Derived.WalkKit
import Derived.BigQuiet
import Derived.Deep.QuietTactic
import Derived.Deep.MidRow
import Derived.Maps.AppendAt
import Derived.Lib.Hide
namespace Go.Proofs.YtkldomkooleecaaGreatDoor
open Go.RowKit

theorem halloc_old (w : World) (o : Obj) (k : Nat) (h : k < w.heap.size) : (w.alloc o).heap[k]? = w.heap[k]? := Below.heap_alloc w o k h

theorem halloc_new (w : World) (o : Obj) (k : Nat) (h : k = w.heap.size) : (w.alloc o).heap[k]? = some o := by rw [h]; exact heap_alloc_new w o

/-- Of what was there only the blocks in M may have turned. -/
structure Kept (M : List Nat) (w w' : World) : Prop where
  os : w'.os = w.os
  tape : w'.tape = w.tape
  output : w'.output = w.output
  size : w.heap.size ≤ w'.heap.size
  block : ∀ k, k < w.heap.size → k ∉ M → w'.heap[k]? = w.heap[k]?

namespace Kept
variable {M : List Nat} {a b c w w' : World}
theorem refl (M : List Nat) (w : World) : Kept M w w := ⟨rfl, rfl, rfl, Nat.le_refl _, fun _ _ _ => rfl⟩
theorem trans (h : Kept M a b) (k : Kept M b c) : Kept M a c :=
  ⟨k.os.trans h.os, k.tape.trans h.tape, k.output.trans h.output, Nat.le_trans h.size k.size,
    fun i hi hn => (k.block i (Nat.lt_of_lt_of_le hi h.size) hn).trans (h.block i hi hn)⟩
/-- What a later step turned of the new blocks does not count. -/
theorem trans' {M' : List Nat} (h : Kept M a b) (k : Kept M' b c) (hm : ∀ x ∈ M', x ∈ M ∨ a.heap.size ≤ x) : Kept M a c :=
  ⟨k.os.trans h.os, k.tape.trans h.tape, k.output.trans h.output, Nat.le_trans h.size k.size,
    fun i hi hn => (k.block i (Nat.lt_of_lt_of_le hi h.size) (fun hx => (hm i hx).elim hn (fun h' => by omega))).trans (h.block i hi hn)⟩
theorem mono {M' : List Nat} (h : Kept M a b) (hm : ∀ x ∈ M, x ∈ M' ∨ a.heap.size ≤ x) : Kept M' a b := (refl M' a).trans' h hm
theorem nil (h : Kept [] a b) : Kept M a b := h.mono (by simp)
theorem alloc (h : Kept M a b) (o : Obj) : Kept M a (b.alloc o) :=
  h.trans ⟨rfl, rfl, rfl, by simp, fun k hk _ => Below.heap_alloc b o k hk⟩
theorem drewN (h : Kept M a b) (n : Nat) : Kept M a (b.drewN n) := h.trans ⟨rfl, rfl, rfl, Nat.le_refl _, fun _ _ _ => rfl⟩
theorem drew (h : Kept M a b) : Kept M a b.drew := h.trans ⟨rfl, rfl, rfl, Nat.le_refl _, fun _ _ _ => rfl⟩
theorem setCell (h : Kept M a b) {p : Addr} (hp : p.block ∈ M ∨ a.heap.size ≤ p.block) (u : Value) : Kept M a (b.setCell p u) :=
  h.trans' (M' := [p.block]) ⟨rfl, rfl, rfl, by simp, fun k _ hn => Below.heap_setCell _ _ _ _ (by simpa using hn)⟩ (by simpa using hp)
theorem below (h : Kept M a b) {B : Nat} (hB : B ≤ a.heap.size) (hm : ∀ x ∈ M, B ≤ x) : Below B a b :=
  ⟨h.os, h.tape, h.output, h.size, fun k hk => h.block k (by omega) (fun hx => by have := hm k hx; omega)⟩
theorem ofBelow (h : Below w.heap.size w w') : Kept M w w' := ⟨h.os, h.tape, h.output, h.size, fun k hk _ => h.block k hk⟩
theorem ofGrown {row : Option Nat} (h : w.grownBy w' row) (hm : ∀ x, row = some x → x ∈ M) : Kept M w w' :=
  ⟨h.os, h.tape, h.output, h.size, fun k hk hn => h.block k hk (fun e => hn (hm k e.symm))⟩
theorem cell (h : Kept M a b) {p : Addr} (hp : p.block < a.heap.size) (hn : p.block ∉ M) : b.cell? p = a.cell? p := World.cell?_of_block (h.block _ hp hn)
theorem cell' (h : Kept M a b) {p : Addr} {v : Value} (hc : a.cell? p = some v) (hn : p.block ∉ M) : b.cell? p = some v :=
  (h.cell (World.block_lt_of_cell? a p hc) hn).trans hc
theorem get (h : Kept M a b) {k : Nat} {o : Obj} (hk : a.heap[k]? = some o) (hn : k ∉ M) : b.heap[k]? = some o :=
  (h.block k (Array.getElem?_eq_some_iff.1 hk).1 hn).trans hk
theorem range (h : Kept M a b) {p o : Nat} {r : List Value} (hr : a.rangeAt p o r) (hn : p ∉ M) : b.rangeAt p o r := fun j v hj => h.cell' (hr j v hj) hn
end Kept

/-- A slice value whose elements (of 'size' cells each) are the rows; what it leads to lies in a block of S. -/
def Reads (S : Nat → Prop) (w : World) (v : Value) (size : Nat) (rows : List (List Value)) : Prop :=
  (∀ r ∈ rows, r.length = size ∧ ∀ u ∈ r, u.oneCell' = true) ∧ ∃ a cap, v = .slice a rows.length cap ∧ rows.length ≤ cap ∧ cap ≤ maxLen ∧
    (rows = [] ∨ ∃ b off, a = some ⟨b, off, none⟩ ∧ S b ∧ b < w.heap.size ∧ ∀ k r, rows[k]? = some r → w.rangeAt b (off + k * size) r)

theorem Reads.kept {S : Nat → Prop} {w w' : World} {v : Value} {size : Nat} {rows : List (List Value)} {M : List Nat} (h : Reads S w v size rows) (k : Kept M w w') (hn : ∀ x ∈ M, ¬ S x) : Reads S w' v size rows := by
  obtain ⟨h1, a, cap, rfl, h2, h3, h4⟩ := h
  refine ⟨h1, a, cap, rfl, h2, h3, ?_⟩
  rcases h4 with h4 | ⟨b, off, rfl, hs, hb, hr⟩
  · exact .inl h4
  · exact .inr ⟨b, off, rfl, hs, Nat.lt_of_lt_of_le hb k.size, fun i r hi => k.range (hr i r hi) (fun hx => hn b hx hs)⟩
theorem Reads.mono {S S' : Nat → Prop} {w : World} {v : Value} {size : Nat} {rows : List (List Value)} (h : Reads S w v size rows) (hs : ∀ b, b < w.heap.size → S b → S' b) : Reads S' w v size rows := by
  obtain ⟨h1, a, cap, rfl, h2, h3, h4⟩ := h
  refine ⟨h1, a, cap, rfl, h2, h3, ?_⟩
  rcases h4 with h4 | ⟨b, off, rfl, hb, hl, hr⟩
  · exact .inl h4
  · exact .inr ⟨b, off, rfl, hs b hl hb, hl, hr⟩
theorem Reads.nil (S : Nat → Prop) (w : World) (size : Nat) : Reads S w (.slice none 0 0) size [] := ⟨by simp, none, 0, rfl, Nat.le_refl _, by simp [maxLen], .inl rfl⟩

theorem flatten_get {size : Nat} : ∀ {rows : List (List Value)}, (∀ r ∈ rows, r.length = size) → ∀ {k j : Nat} {r : List Value} {x : Value}, rows[k]? = some r → r[j]? = some x → rows.flatten[k * size + j]? = some x
  | [], _, k, j, r, x, h, _ => by simp at h
  | q :: rows, hs, 0, j, r, x, h, hj => by
    simp at h
    subst h
    rw [List.flatten_cons, Nat.zero_mul, Nat.zero_add, List.getElem?_append_left (List.getElem?_eq_some_iff.1 hj).1]
    exact hj
  | q :: rows, hs, k + 1, j, r, x, h, hj => by
    have hq := hs q (by simp)
    rw [List.flatten_cons, List.getElem?_append_right (by rw [hq, Nat.add_mul]; omega), hq, show (k + 1) * size + j - size = k * size + j by rw [Nat.add_mul]; omega]
    exact flatten_get (fun r hr => hs r (by simp [hr])) (by simpa using h) hj

/-- A slice of the call's own: it can be appended to. -/
structure Own (w : World) (base : Nat) (e size : Nat) (v : Value) (rows : List (List Value)) : Prop where
  row : w.ownsRow base e size v rows.length rows.flatten
  each : ∀ r ∈ rows, r.length = size ∧ ∀ u ∈ r, u.oneCell' = true

namespace Own
variable {w w' : World} {base e size : Nat} {v : Value} {rs : List (List Value)}
theorem nil (w : World) (base e size : Nat) : Own w base e size (.slice none 0 0) [] := ⟨World.ownsRow_nil _ _ _ _, by simp⟩
theorem kept {M : List Nat} (h : Own w base e size v rs) (k : Kept M w w') (hn : ∀ x, v.ownBlock = some x → x ∉ M) : Own w' base e size v rs := by
  refine ⟨⟨h.row.1, ?_⟩, h.each⟩
  rcases h.row.2 with h1 | ⟨g, cap, cur, rfl, hb, hg, r⟩
  · exact .inl h1
  · exact .inr ⟨g, cap, cur, rfl, hb, k.get hg (hn g rfl), r⟩
theorem lt (h : Own w base e size v rs) : ∀ x, v.ownBlock = some x → base ≤ x ∧ x < w.heap.size := h.row.lt
theorem mono (h : Own w base e size v rs) {base' : Nat} (hb : base' ≤ base) : Own w base' e size v rs := by
  refine ⟨⟨h.row.1, ?_⟩, h.each⟩
  rcases h.row.2 with h1 | ⟨g, cap, cur, rfl, hg, r⟩
  · exact .inl h1
  · exact .inr ⟨g, cap, cur, rfl, Nat.le_trans hb hg, r⟩
theorem shape (h : Own w base e size v rs) : ∃ a cap, v = .slice a rs.length cap ∧ rs.length ≤ cap ∧ cap ≤ maxLen := by
  rcases h.row.2 with ⟨rfl, h2⟩ | ⟨g, cap, cur, rfl, hb, hg, h3, h4, _⟩
  · rw [h2]; exact ⟨none, 0, rfl, Nat.le_refl _, by simp [maxLen]⟩
  · exact ⟨_, _, rfl, h3, h4⟩
/-- .. it reads as its rows, through its own block alone. -/
theorem rows (h : Own w base e size v rs) : Reads (fun b => v.ownBlock = some b) w v size rs := by
  refine ⟨h.each, ?_⟩
  rcases h.row.2 with ⟨rfl, h2⟩ | ⟨g, cap, cur, rfl, hb, hg, h3, h4, h5, h6⟩
  · rw [h2]; exact ⟨none, 0, rfl, Nat.le_refl _, by simp [maxLen], .inl (List.eq_nil_of_length_eq_zero h2)⟩
  · refine ⟨_, cap, rfl, h3, h4, .inr ⟨g, 0, rfl, rfl, (Array.getElem?_eq_some_iff.1 hg).1, fun k r hk j x hj => ?_⟩⟩
    have := h.row.cells (g := g) rfl (k * size + j) x (flatten_get (fun r hr => (h.each r hr).1) hk hj)
    rw [Addr.add_lit] at this
    rw [show 0 + k * size + j = 0 + (k * size + j) by omega]
    exact this
theorem rows' (h : Own w base e size v rs) : Reads (fun b => base ≤ b) w v size rs := h.rows.mono fun b _ hb => (h.lt b hb).1
end Own

section
variable {P : Program} {w : World} {ops : Array Oper} {rest : List Oper} {o₁ o₂ : Oper} {a : Act} {Q : Exit → Act → World → Prop}

theorem run_buildSlice_one (t e : TypeId) (i : TypeInfo) (z : Value) (ht : P.underlying t = some (.slice e)) (hi : P.info? e = some i) (hz : i.zero = some z) 
    (x : Value) (r : List Value) (hx : x.cells = r.toArray) (hr : r.length = i.size) (hsz : 0 < i.size) (hbig : i.size ≤ 16777216) :
    (Instr.buildSlice t 1 #[(0, x)]).run P w = .ok (.slice (some ⟨w.heap.size, 0, none⟩) 1 1) (w.alloc (.cells r.toArray e)) := by
  have hne : i.size ≠ 0 := by omega
  have hb : ¬ 2 ^ 24 < i.size := by omega
  have hfold : ∀ (l m : List Value), l.length = m.length → (Array.foldl (fun (cs : Array Value) (x : Value × Nat) => cs.setIfInBounds x.2 x.1) m.toArray l.toArray.zipIdx) = l.toArray := by
    intro l m hl
    have key : ∀ (l m p : List Value), l.length = m.length → (l.zipIdx p.length).foldl (fun (cs : Array Value) (x : Value × Nat) => cs.setIfInBounds x.2 x.1) (p ++ m).toArray = (p ++ l).toArray := by
      intro l
      induction l with
      | nil => intro m p h; have : m = [] := List.eq_nil_of_length_eq_zero (by simpa using h.symm); subst this; rfl
      | cons c l ih =>
        intro m p h
        match m, h with
        | d :: m, h =>
          simp only [List.zipIdx_cons, List.foldl_cons]
          have e1 : ((p ++ d :: m).toArray.setIfInBounds p.length c) = ((p ++ [c]) ++ m).toArray := by
            simp
          rw [e1]
          have := ih m (p ++ [c]) (by simpa using h)
          simp only [List.length_append, List.length_cons, List.length_nil, Nat.zero_add] at this
          rw [this]
          simp
    have := key l m [] hl
    simp only [List.length_nil, List.nil_append] at this
    rw [← Array.foldl_toList]
    simpa using this
  have hzl : ((Array.range (1 * i.size)).map (fun j => z.cells[j % z.cells.size]!)).size = i.size := by simp
  obtain ⟨m, hm⟩ : ∃ m : List Value, ((Array.range (1 * i.size)).map (fun j => z.cells[j % z.cells.size]!)) = m.toArray := ⟨_, (Array.toArray_toList).symm⟩
  have hml : m.length = i.size := by rw [hm] at hzl; simpa using hzl
  have hfill : Instr.fill (fun j => some (j * i.size, i.size)) m.toArray [(0, x)] = some r.toArray := by
    simp only [Instr.fill, hx, List.size_toArray, hr, hml, Nat.zero_mul, Nat.zero_add]
    rw [if_neg (by simp)]
    exact congrArg some (hfold r m (by rw [hr, hml]))
  simp only [Instr.buildSlice, Sem.run_bind, run_underlying ht, Result.andThen_ok, sizeOf, typeInfo]
  rw [show (1 * i.size) = i.size by omega] at hm
  simp [hi, hb, hne, zeroValue, hz, typeInfo, hm, hfill, newRow, newObj, program, Sem.run, Result.andThen]

/-- 'append(s, x)': x is laid in a new block of its own, then s grows by it. -/
theorem wpList_append1 {d₁ : Tmp} (s x : Operand) (t e : TypeId) (hg₁ : o₁.guard = none) (hg₂ : o₂.guard = none)
    (ho₁ : o₁.op = .buildSlice t 1 #[(0, x)]) (hd₁ : o₁.dst = some d₁)
    (ho₂ : o₂.op = .call { callee := .builtin .append, args := #[s, .tmp d₁], argTypes := #[t, t] })
    (i : TypeInfo) (z : Value) (size bytes : Nat) (ht : P.underlying t = some (.slice e)) (hi : P.info? e = some i) (hz : i.zero = some z)
    (hsize : i.size = size) (hby : i.bytes = bytes) (hzs : z.cells.size = size) (hsz : 0 < size) (hbig : size ≤ 16777216)
    (base : Nat) (v : Value) (rows : List (List Value)) (hs : ∀ u, (a.put (some d₁) u).eval s = v) (hu : ∀ u, (a.put (some d₁) u).eval (.tmp d₁) = u)
    (r : List Value) (hx : (a.eval x).cells = r.toArray) (hr : r.length = size) (h1 : ∀ u ∈ r, u.oneCell' = true)
    (hown : Own w base e size v rows) (h63 : rows.length < 9223372036854775807) (hbytes : (rows.length + 1) * bytes ≤ 140737488355328) (hbase : base ≤ w.heap.size)
    (h : ∀ v' w', Own w' base e size v' (rows ++ [r]) → (∀ M, (∀ x, v.ownBlock = some x → x ∈ M) → Kept M w w') → (v'.ownBlock = v.ownBlock ∨ ∃ g, v'.ownBlock = some g ∧ w.heap.size ≤ g) →
      wpList P ops Q rest ((a.put (some d₁) (.slice (some ⟨w.heap.size, 0, none⟩) 1 1)).put o₂.dst v') w') :
    wpList P ops Q (o₁ :: o₂ :: rest) a w := by
  refine wpList_plain hg₁ fun K hK => ?_
  have hb := run_buildSlice_one (P := P) (w := w) t e i z ht hi hz (a.eval x) r hx (by rw [hr, hsize]) (by omega) (by omega)
  unfold Oper.wp execOp
  simp only [ho₁, Sem.run_bind, Result.andThen_ok, List.map_toArray, List.map_cons, List.map_nil, hb]
  show K (a.put o₁.dst _) _
  rw [hd₁]
  refine hK _ _ (wpList_append_own_at _ hg₂ s (.tmp d₁) t ho₂ base e i z size bytes ht hi hz hsize hby hzs hsz v rows.length rows.flatten (hs _) (hown.row.alloc _) ⟨w.heap.size, 0, none⟩ 1 1 r (hu _) (by omega) ?_ h1 (by unfold maxLen; omega) hbytes (by simp; omega) ?_)
  · intro j u hj
    rw [Addr.add_lit]
    simp [hj]
  · intro v' w' hown' hgr _ hloc
    refine h v' w' ⟨by simpa using hown', fun q hq => ?_⟩ (fun M hM => ((Kept.refl M w).alloc _).trans (Kept.ofGrown hgr hM)) ?_
    · rcases List.mem_append.1 hq with hq | hq
      · exact hown.each q hq
      · simp at hq; subst hq; exact ⟨hr, h1⟩
    · rcases hloc with hloc | hloc
      · exact .inl hloc
      · exact .inr ⟨_, hloc, by simp⟩

theorem range_flatten {w : World} {b size : Nat} : ∀ {rows : List (List Value)} {off : Nat}, (∀ r ∈ rows, r.length = size) → (∀ k r, rows[k]? = some r → w.rangeAt b (off + k * size) r) → w.rangeAt b off rows.flatten
  | [], _, _, _ => fun j v h => by simp at h
  | q :: rows, off, hs, h => fun j v hj => by
    have hq := hs q (by simp)
    rw [List.flatten_cons] at hj
    by_cases hlt : j < q.length
    · rw [List.getElem?_append_left hlt] at hj
      have := h 0 q (by simp) j v hj
      simpa using this
    · rw [List.getElem?_append_right (by omega)] at hj
      have := range_flatten (rows := rows) (off := off + size) (fun r hr => hs r (by simp [hr])) (fun k r hk => by
        have := h (k + 1) r (by simpa using hk)
        rw [show off + (k + 1) * size = off + size + k * size by rw [Nat.add_mul]; omega] at this
        exact this) (j - q.length) v hj
      rw [show off + size + (j - q.length) = off + j by omega] at this
      exact this

theorem run_append_zero (t ty e : TypeId) (i : TypeInfo) (ht : P.underlying t = some (.slice e)) (hi : P.info? e = some i) (b a : Option Addr) (n cap c : Nat) (hn : n ≤ cap) :
    (Builtin.append_ #[t, t] ty #[.slice b n cap, .slice a 0 c]).run P w = .ok (.slice b n cap) w := by
  cases a <;> cases b <;> simp [Builtin.append_, run_underlying ht, sizeOf, typeInfo, hi, Builtin.lenOf, hn, Builtin.firstCells, loadCells, loadCellsFrom, storeCells]

/-- 'append(v, u...)': u whatever slice that reads as rows. -/
theorem run_append_rows (t ty e : TypeId) (i : TypeInfo) (z : Value) (size bytes : Nat) (ht : P.underlying t = some (.slice e)) (hi : P.info? e = some i) (hz : i.zero = some z)
    (hsize : i.size = size) (hby : i.bytes = bytes) (hzs : z.cells.size = size) (hsz : 0 < size)
    (base : Nat) (v : Value) (rs qs : List (List Value)) (hown : Own w base e size v rs) (S : Nat → Prop) (u : Value) (hu : Reads S w u size qs)
    (h63 : rs.length + qs.length ≤ 9223372036854775807) (hbytes : (rs.length + qs.length) * bytes ≤ 140737488355328) (hbase : base ≤ w.heap.size) :
    ∃ v' w', (Builtin.append_ #[t, t] ty #[v, u]).run P w = .ok v' w' ∧ Own w' base e size v' (rs ++ qs) ∧ (∀ M, (∀ x, v.ownBlock = some x → x ∈ M) → Kept M w w') ∧
      (v'.ownBlock = v.ownBlock ∨ ∃ g, v'.ownBlock = some g ∧ w.heap.size ≤ g) := by
  obtain ⟨hq, a, cap, rfl, h2, h3, h4⟩ := hu
  by_cases hqs : qs = []
  · subst hqs
    obtain ⟨b, c, rfl, hc1, _⟩ := hown.shape
    refine ⟨_, w, run_append_zero t ty e i ht hi b a rs.length c cap hc1, by simpa using hown, fun M _ => Kept.refl _ _, .inl rfl⟩
  · obtain ⟨b, off, rfl, _, _, hr⟩ := h4.resolve_left hqs
    have hfl : qs.flatten.length = qs.length * size := by
      rw [List.length_flatten, show qs.map List.length = List.replicate qs.length size from List.eq_replicate_iff.2 ⟨by simp, fun x hx => by obtain ⟨r, hr1, rfl⟩ := List.mem_map.1 hx; exact (hq r hr1).1⟩]
      simp [Nat.mul_comm]
    obtain ⟨v', w', hrun, g1, g2, _, g4⟩ := run_append_own_at (P := P) w base t ty e i z size bytes ht hi hz hsize hby hzs hsz v rs.length rs.flatten hown.row ⟨b, off, none⟩ qs.length cap qs.flatten hfl
      (fun j x hx => by rw [Addr.add_lit]; exact range_flatten (fun r hr => (hq r hr).1) hr j x hx) (fun x hx => by obtain ⟨r, hr1, hx⟩ := List.mem_flatten.1 hx; exact (hq r hr1).2 x hx) (by unfold maxLen; omega) hbytes hbase
    refine ⟨v', w', hrun, ⟨by simpa using g1, fun q hq' => ?_⟩, fun M hM => Kept.ofGrown g2 hM, ?_⟩
    · rcases List.mem_append.1 hq' with h | h
      · exact hown.each q h
      · exact hq q h
    · rcases g4 with g4 | g4
      · exact .inl g4
      · exact .inr ⟨_, g4, Nat.le_refl _⟩

theorem wp_append_rows {o : Oper} {K : Act → World → Prop} (s x : Operand) (t e : TypeId) (ho : o.op = .call { callee := .builtin .append, args := #[s, x], argTypes := #[t, t] })
    (i : TypeInfo) (z : Value) (size bytes : Nat) (ht : P.underlying t = some (.slice e)) (hi : P.info? e = some i) (hz : i.zero = some z)
    (hsize : i.size = size) (hby : i.bytes = bytes) (hzs : z.cells.size = size) (hsz : 0 < size)
    (base : Nat) (v : Value) (rs qs : List (List Value)) (hs : a.eval s = v) (hown : Own w base e size v rs) (S : Nat → Prop) (u : Value) (hx : a.eval x = u) (hu : Reads S w u size qs)
    (h63 : rs.length + qs.length ≤ 9223372036854775807) (hbytes : (rs.length + qs.length) * bytes ≤ 140737488355328) (hbase : base ≤ w.heap.size)
    (h : ∀ v' w', Own w' base e size v' (rs ++ qs) → (∀ M, (∀ x, v.ownBlock = some x → x ∈ M) → Kept M w w') → (v'.ownBlock = v.ownBlock ∨ ∃ g, v'.ownBlock = some g ∧ w.heap.size ≤ g) → K (a.put o.dst v') w') : o.wp P a w K Q := by
  obtain ⟨v', w', hr, h2, h3, h4⟩ := run_append_rows (P := P) (w := w) t o.type e i z size bytes ht hi hz hsize hby hzs hsz base v rs qs hown S u hu h63 hbytes hbase
  unfold Oper.wp execOp
  simp only [ho, resolve, invoke, builtin, Sem.run_bind, Sem.run_pure, Result.andThen_ok, List.map_toArray, List.map_cons, List.map_nil, hs, hx, hr]
  exact h v' w' h2 h3 h4

theorem wpList_append_rows {o : Oper} (hg : o.guard = none) (s x : Operand) (t e : TypeId) (ho : o.op = .call { callee := .builtin .append, args := #[s, x], argTypes := #[t, t] })
    (i : TypeInfo) (z : Value) (size bytes : Nat) (ht : P.underlying t = some (.slice e)) (hi : P.info? e = some i) (hz : i.zero = some z)
    (hsize : i.size = size) (hby : i.bytes = bytes) (hzs : z.cells.size = size) (hsz : 0 < size)
    (base : Nat) (v : Value) (rs qs : List (List Value)) (hs : a.eval s = v) (hown : Own w base e size v rs) (S : Nat → Prop) (u : Value) (hx : a.eval x = u) (hu : Reads S w u size qs)
    (h63 : rs.length + qs.length ≤ 9223372036854775807) (hbytes : (rs.length + qs.length) * bytes ≤ 140737488355328) (hbase : base ≤ w.heap.size)
    (h : ∀ v' w', Own w' base e size v' (rs ++ qs) → (∀ M, (∀ x, v.ownBlock = some x → x ∈ M) → Kept M w w') → (v'.ownBlock = v.ownBlock ∨ ∃ g, v'.ownBlock = some g ∧ w.heap.size ≤ g) → wpList P ops Q rest (a.put o.dst v') w') :
    wpList P ops Q (o :: rest) a w :=
  wpList_plain hg fun _ hK => wp_append_rows s x t e ho i z size bytes ht hi hz hsize hby hzs hsz base v rs qs hs hown S u hx hu h63 hbytes hbase fun v' w' h2 h3 h4 => hK _ _ (h v' w' h2 h3 h4)

/-- .. as a step of a region that draws its order. -/
theorem step_append_rows {o : Oper} {K : Act → World → Prop} {E : Prop} (hg : o.guard = none) (s x : Operand) (t e : TypeId) (ho : o.op = .call { callee := .builtin .append, args := #[s, x], argTypes := #[t, t] })
    (i : TypeInfo) (z : Value) (size bytes : Nat) (ht : P.underlying t = some (.slice e)) (hi : P.info? e = some i) (hz : i.zero = some z)
    (hsize : i.size = size) (hby : i.bytes = bytes) (hzs : z.cells.size = size) (hsz : 0 < size)
    (base : Nat) (v : Value) (rs qs : List (List Value)) (hs : a.eval s = v) (hown : Own w base e size v rs) (S : Nat → Prop) (u : Value) (hx : a.eval x = u) (hu : Reads S w u size qs)
    (h63 : rs.length + qs.length ≤ 9223372036854775807) (hbytes : (rs.length + qs.length) * bytes ≤ 140737488355328) (hbase : base ≤ w.heap.size)
    (h : ∀ v' w', Own w' base e size v' (rs ++ qs) → (∀ M, (∀ x, v.ownBlock = some x → x ∈ M) → Kept M w w') → (v'.ownBlock = v.ownBlock ∨ ∃ g, v'.ownBlock = some g ∧ w.heap.size ≤ g) → K (a.put o.dst v') w') :
    if Region.wanted o (yielded ops a.tmps) = true then Oper.wp P o a w K Q else E := by
  have hw : Region.wanted o (yielded ops a.tmps) = true := by simp [Region.wanted, hg]
  rw [if_pos hw]
  exact wp_append_rows s x t e ho i z size bytes ht hi hz hsize hby hzs hsz base v rs qs hs hown S u hx hu h63 hbytes hbase h

/-- A part of a slice. -/
def sub (size : Nat) (v : Value) (lo hi : Nat) : Value :=
  match v with
  | .slice a _ cap => .slice (if cap = lo then a else a.map (·.add (lo * size))) (hi - lo) (cap - lo)
  | v => v
theorem Reads.sub {S : Nat → Prop} {w : World} {v : Value} {size : Nat} {rows : List (List Value)} (h : Reads S w v size rows) (lo hi : Nat) (h1 : lo ≤ hi) (h2 : hi ≤ rows.length) :
    Reads S w (Go.Proofs.YtkldomkooleecaaGreatDoor.sub size v lo hi) size ((rows.take hi).drop lo) := by
  obtain ⟨hq, a, cap, rfl, h3, h4, h5⟩ := h
  have hlen : ((rows.take hi).drop lo).length = hi - lo := by simp; omega
  refine ⟨fun r hr => hq r (List.mem_of_mem_take (List.mem_of_mem_drop hr)), (if cap = lo then a else a.map (·.add (lo * size))), cap - lo, by rw [hlen]; rfl, by omega, by omega, ?_⟩
  by_cases he : (rows.take hi).drop lo = []
  · exact .inl he
  right
  have hne : rows ≠ [] := by rintro rfl; simp at he
  have hlt : lo < hi := by
    rcases Nat.lt_or_ge lo hi with h | h
    · exact h
    · exact absurd (List.eq_nil_of_length_eq_zero (by rw [hlen]; omega)) he
  obtain ⟨b, off, rfl, hs, hb, hr⟩ := h5.resolve_left hne
  refine ⟨b, off + lo * size, ?_, hs, hb, fun k r hk => ?_⟩
  · rw [if_neg (by omega)]
    simp [Addr.add_lit]
  · rw [List.getElem?_drop] at hk
    have hk' : rows[lo + k]? = some r := by
      rw [List.getElem?_take] at hk
      split at hk
      · exact hk
      · cases hk
    have := hr (lo + k) r hk'
    rw [show off + (lo + k) * size = off + lo * size + k * size by rw [Nat.add_mul]; omega] at this
    exact this

theorem run_sub (t e : TypeId) (i : TypeInfo) (ht : P.underlying t = some (.slice e)) (hinf : P.info? e = some i) (a : Option Addr) (len cap : Nat) (lo hi : Option Int) (l h : Nat)
    (hl : (lo = none ∧ l = 0) ∨ lo = some (l : Int)) (hh : (hi = none ∧ h = len) ∨ hi = some (h : Int)) (h1 : l ≤ h) (h2 : h ≤ cap) :
    (Instr.slice t (.slice a len cap) (lo.map (Value.int .i64)) (hi.map (Value.int .i64)) none).run P w = .ok (sub i.size (.slice a len cap) l h) w := by
  have hb : (Instr.sliceBounds true len cap (lo.map (Value.int .i64)) (hi.map (Value.int .i64)) none).run P w = .ok (l, h, cap) w := by
    rcases hl with ⟨rfl, rfl⟩ | rfl <;> rcases hh with ⟨rfl, rfl⟩ | rfl <;>
      simp [Instr.sliceBounds, run_sliceBound, *]
  unfold Instr.slice
  rw [Sem.run_bind, run_underlying ht]
  simp only [Result.andThen_ok]
  rw [Sem.run_bind, hb]
  simp [sizeOf, typeInfo, hinf, sub]

/-- A local variable of a struct's type is made and filled at once. -/
theorem wpList_allocStore {d₁ : Tmp} (y : Operand) (t : TypeId) (hg₁ : o₁.guard = none) (hg₂ : o₂.guard = none)
    (ho₁ : o₁.op = .alloc t) (hd₁ : o₁.dst = some d₁) (ho₂ : o₂.op = .store t (.tmp d₁) y) (hd₂ : o₂.dst = none)
    (z : Value) (r : List Value) (hi : (P.info? t).map (fun i => (i.zero, i.size)) = some (some z, r.length)) (hzs : z.cells.size = r.length)
    (hu : ∀ u, (a.put (some d₁) u).eval (.tmp d₁) = u) (hy : ∀ u, ((a.put (some d₁) u).eval y).cells = r.toArray) (h1 : ∀ u ∈ r, u.oneCell' = true)
    (h : wpList P ops Q rest (a.put (some d₁) (.pointer (some ⟨w.heap.size, 0, none⟩))) (w.alloc (.cells r.toArray t))) :
    wpList P ops Q (o₁ :: o₂ :: rest) a w := by
  refine wpList_plain hg₁ fun K hK => ?_
  cases hq : P.info? t with
  | none => simp [hq] at hi
  | some i =>
    simp [hq] at hi
    obtain ⟨hz, hs⟩ := hi
    have ha : (Instr.alloc t true (.tuple #[])).run P w = .ok (.pointer (some ⟨w.heap.size, 0, none⟩)) (w.alloc (.cells z.cells t)) := by
      simp [Instr.alloc, zeroValue, typeInfo, hq, hz, newVar, newRow, newObj, Sem.run, Result.andThen]
    unfold Oper.wp execOp
    simp only [ho₁, Sem.run_bind, Result.andThen_ok, ha]
    show K (a.put o₁.dst _) _
    rw [hd₁]
    refine hK _ _ (wpList_plain hg₂ fun K' hK' => ?_)
    have hst := run_storeVar_mid (P := P) (w.alloc (.cells z.cells t)) w.heap.size 0 t r.toArray
      (fun j hj => by
        have hj' : j < r.length := by simpa using hj
        constructor
        · simp; omega
        · simp)
      (by simp [hq, hs]) (all_oneCell_toArray h1)
    have hw : (w.alloc (.cells z.cells t)).setCells w.heap.size 0 r = w.alloc (.cells r.toArray t) := by
      have key : ∀ (r m p : List Value), r.length = m.length → (w.alloc (.cells (p ++ m).toArray t)).setCells w.heap.size p.length r = w.alloc (.cells (p ++ r).toArray t) := by
        intro r
        induction r with
        | nil => intro m p h; have : m = [] := List.eq_nil_of_length_eq_zero (by simpa using h.symm); subst this; rfl
        | cons c r ih =>
          intro m p h
          match m, h with
          | d :: m, h =>
            simp only [World.setCells]
            rw [World.setCell_alloc_at _ _ _ _ _ rfl]
            have e1 : ((p ++ d :: m).toArray.setIfInBounds p.length c) = ((p ++ [c]) ++ m).toArray := by simp
            rw [e1]
            have := ih m (p ++ [c]) (by simpa using h)
            simp only [List.length_append, List.length_cons, List.length_nil, Nat.zero_add] at this
            rw [this]
            simp
      have := key r z.cells.toList [] (by simp [hzs])
      simpa using this
    unfold Oper.wp execOp
    simp only [ho₂, hu, Instr.storeAt, Instr.sureAddr, Sem.run_bind, Sem.run_pure, Result.andThen_ok]
    have hval : ∀ v : Value, v.cells = r.toArray → (storeVar t ⟨w.heap.size, 0, none⟩ v).run P (w.alloc (.cells z.cells t)) = .ok () (w.alloc (.cells r.toArray t)) := by
      intro v hv
      have e1 : (storeVar t ⟨w.heap.size, 0, none⟩ v) = storeVar t ⟨w.heap.size, 0, none⟩ (.agg r.toArray) := by unfold storeVar; rw [hv]; rfl
      rw [e1, hst]
      simp only [hw]
    rw [hval _ (hy _)]
    show K' (Act.put _ o₂.dst _) _
    rw [hd₂]
    exact hK' _ _ h
end
end Go.Proofs.YtkldomkooleecaaGreatDoor
