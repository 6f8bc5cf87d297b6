/- The map of counters at one key: what a lookup and an entry do. -/
import Derived.Test.YtkldomkooleecaaDoorKey
import Derived.WideKeyRuns
namespace Go.Proofs.YtkldomkooleecaaDoor
open Go.RowKit

def kk : Value := .agg #[.int .i64 3, .string key0]
theorem part_int (w : World) (k : ByteArray) (x : Int) : (part 3 #[Value.int IntKind.i64 x, Value.string k] 0).run Tryd.prog w = .ok (.int .i64 x) w := run_part_plain w (by kernel_rfl) rfl
theorem part_str (w : World) (k : ByteArray) (x : Int) : (part 9 #[Value.int IntKind.i64 x, Value.string k] 1).run Tryd.prog w = .ok (.string k) w := run_part_plain w (by kernel_rfl) rfl
theorem check_int (em : Bool) (n : Nat) (x : Int) (w : World) : (Instr.checkKey em (n + 1) 3 (.int .i64 x)).run Tryd.prog w = .ok () w := by
  simp [Instr.checkKey, run_underlying Tryd.underlying3]
theorem check_str (em : Bool) (n : Nat) (x : ByteArray) (w : World) : (Instr.checkKey em (n + 1) 9 (.string x)).run Tryd.prog w = .ok () w := by
  simp [Instr.checkKey, run_underlying Tryd.underlying9]
set_option maxRecDepth 100000 in
theorem check_kk (em : Bool) (w : World) : (Instr.checkKey em 10000 82 kk).run Tryd.prog w = .ok () w := by
  unfold Instr.checkKey
  rw [Sem.run_bind, run_underlying Tryd.underlying82]
  simp [kk, part_int, part_str, check_int, check_str]
theorem eq_int (n : Nat) (x : Int) (w : World) : (Op.equalIn (n + 1) 3 (.int .i64 x) (.int .i64 x)).run Tryd.prog w = .ok true w := by
  simp [Op.equalIn, run_underlying Tryd.underlying3]
theorem eq_str (n : Nat) (x : ByteArray) (w : World) : (Op.equalIn (n + 1) 9 (.string x) (.string x)).run Tryd.prog w = .ok true w := by
  simp [Op.equalIn, run_underlying Tryd.underlying9]
  exact (MapKept.bytes_beq x x).2 rfl
set_option maxRecDepth 100000 in
theorem equal_kk (w : World) : (Op.equal 82 kk kk).run Tryd.prog w = .ok true w := by
  unfold Op.equal Op.maxDepth Op.equalIn
  rw [Sem.run_bind, run_underlying Tryd.underlying82]
  simp [kk, part_int, part_str, eq_int, eq_str]

/-- The map with its one entry. -/
def oneMap (n : Int) : Obj := .map #[{ key := kk, val := .int .i64 n, born := 0 }] 1
theorem find_none (w : World) : (Instr.findKey 82 kk []).run Tryd.prog w = .ok none w := by
  rw [run_findKey_eq w (by kernel_rfl)]
  simp [Instr.findAsking]
theorem find_one (n : Int) (w : World) : (Instr.findKey 82 kk [{ key := kk, val := .int .i64 n, born := 0 }]).run Tryd.prog w = .ok (some (0, .int .i64 n)) w := by
  rw [run_findKey_eq w (by kernel_rfl)]
  simp [Instr.findAsking, equal_kk]
theorem zero_int (w : World) : (zeroValue 3).run Tryd.prog w = .ok (.int .i64 0) w := by
  have h : (Tryd.prog.info? 3).map (fun i => i.zero) = some (some (.int .i64 0)) := by kernel_rfl
  cases hi : Tryd.prog.info? 3 with
  | none => simp [hi] at h
  | some i => simp [hi] at h; simp [zeroValue, typeInfo, hi, h]
theorem lookup_empty (mb : Nat) (w : World) (h : w.heap[mb]? = some (.map #[] 0)) : (Instr.lookup 62 (.map (some mb)) kk false).run Tryd.prog w = .ok (.int .i64 0) w := by
  unfold Instr.lookup
  rw [Sem.run_bind, run_underlying Tryd.underlying62]
  simp [MapKept.run_getObj_map h, check_kk, find_none, zero_int]
theorem lookup_one (mb : Nat) (n : Int) (w : World) (h : w.heap[mb]? = some (oneMap n)) : (Instr.lookup 62 (.map (some mb)) kk false).run Tryd.prog w = .ok (.int .i64 n) w := by
  unfold Instr.lookup
  rw [Sem.run_bind, run_underlying Tryd.underlying62]
  simp [MapKept.run_getObj_map h, check_kk, find_one]
/-- The world with another object in block b. -/
def setO (w : World) (b : Nat) (o : Obj) : World := { w with heap := w.heap.setIfInBounds b o }
theorem Kept.setO {M : List Nat} {a b : World} (h : Kept M a b) {p : Nat} (hp : p ∈ M ∨ a.heap.size ≤ p) (o : Obj) : Kept M a (setO b p o) :=
  h.trans' (M' := [p]) ⟨rfl, rfl, rfl, by simp [Go.Proofs.YtkldomkooleecaaDoor.setO], fun k _ hn => by
    show (b.heap.setIfInBounds p o)[k]? = _
    rw [Array.getElem?_setIfInBounds, if_neg (by simp at hn; omega)]⟩ (by simpa using hp)
theorem setO_get {w : World} {b : Nat} {o o' : Obj} (h : w.heap[b]? = some o) : (setO w b o').heap[b]? = some o' := (MapKept.heap_set h).1
theorem entry_empty (mb : Nat) (w : World) (h : w.heap[mb]? = some (.map #[] 0)) : (Instr.mapEntry 62 (.map (some mb)) kk).run Tryd.prog w = .ok (.tuple #[.int .i64 0, goInt 0]) (setO w mb (oneMap 0)) := by
  unfold Instr.mapEntry
  rw [Sem.run_bind, run_underlying Tryd.underlying62]
  simp [MapKept.run_getObj_map h, check_kk, find_none, zero_int, MapKept.run_setObj_map _ h, oneMap, Go.Proofs.YtkldomkooleecaaDoor.setO]
theorem entry_one (mb : Nat) (n : Int) (w : World) (h : w.heap[mb]? = some (oneMap n)) : (Instr.mapEntry 62 (.map (some mb)) kk).run Tryd.prog w = .ok (.tuple #[.int .i64 n, goInt 0]) (setO w mb (oneMap n)) := by
  unfold Instr.mapEntry
  rw [Sem.run_bind, run_underlying Tryd.underlying62]
  have hst : (Instr.keyThatStays kk kk).run Tryd.prog w = .ok kk w := by simp [Instr.keyThatStays, Instr.sameBits, kk, (MapKept.bytes_beq key0 key0).2 rfl]
  simp [MapKept.run_getObj_map h, check_kk, find_one, MapKept.run_setObj_map _ h, oneMap, Go.Proofs.YtkldomkooleecaaDoor.setO, hst]
theorem store_one (mb : Nat) (n m : Int) (w : World) (h : w.heap[mb]? = some (oneMap n)) : (Instr.entryStore 62 (.map (some mb)) (goInt 0) (.int .i64 m)).run Tryd.prog w = .ok () (setO w mb (oneMap m)) := by
  unfold Instr.entryStore
  simp [MapKept.run_getObj_map h, goInt, MapKept.run_setObj_map _ h, oneMap, Go.Proofs.YtkldomkooleecaaDoor.setO, asInt, asIntOf]
end Go.Proofs.YtkldomkooleecaaDoor
