/- The keys of the graph's maps: numbers, pairs of numbers, queries. -/
import Derived.Test.YtkldomkooleecaaGreatDoorGMap
import Derived.Test.YtkldomkooleecaaGreatDoorBase
namespace Go.Proofs.YtkldomkooleecaaGreatDoor
open Go.RowKit Go.Maps Go.MapKept

theorem key_int : KeyTy Tryz.prog 3 IntKey := int_key Tryz.underlying3

def pairK (x y : Int) : Value := .agg #[.int .i64 x, .int .i64 y]
def PairKey (v : Value) : Prop := ∃ x y : Int, v = pairK x y
theorem pairK_inj {x y x' y' : Int} (h : pairK x y = pairK x' y') : x = x' ∧ y = y' := by
  unfold pairK at h
  simpa using h
theorem part_pair (w : World) (x y : Int) (k : Nat) (v : Value) (h : (#[Value.int .i64 x, Value.int .i64 y] : Array Value)[k]? = some v) : (part 3 #[Value.int .i64 x, Value.int .i64 y] k).run Tryz.prog w = .ok v w := run_part_plain w (by kernel_rfl) h
theorem part_fst (w : World) (x y : Int) : (part 3 #[Value.int .i64 x, Value.int .i64 y] 0).run Tryz.prog w = .ok (.int .i64 x) w := part_pair w x y 0 _ rfl
theorem part_snd (w : World) (x y : Int) : (part 3 #[Value.int .i64 x, Value.int .i64 y] 1).run Tryz.prog w = .ok (.int .i64 y) w := part_pair w x y 1 _ rfl
theorem check_int (em : Bool) (n : Nat) (x : Int) (w : World) : (Instr.checkKey em (n + 1) 3 (.int .i64 x)).run Tryz.prog w = .ok () w := by
  simp [Instr.checkKey, run_underlying Tryz.underlying3]
theorem eq_int (n : Nat) (x y : Int) (w : World) : (Op.equalIn (n + 1) 3 (.int .i64 x) (.int .i64 y)).run Tryz.prog w = .ok (x == y) w := by
  simp [Op.equalIn, run_underlying Tryz.underlying3]
set_option maxRecDepth 100000 in
theorem check_pair (w : World) (em : Bool) (x y : Int) : (Instr.checkKey em 10000 69 (pairK x y)).run Tryz.prog w = .ok () w := by
  unfold Instr.checkKey pairK
  rw [Sem.run_bind, run_underlying Tryz.underlying69]
  simp [List.range', part_fst, part_snd, check_int]
set_option maxRecDepth 100000 in
theorem equal_pair (w : World) (x y x' y' : Int) : (Op.equal 69 (pairK x y) (pairK x' y')).run Tryz.prog w = .ok (x == x' && y == y') w := by
  unfold Op.equal Op.maxDepth Op.equalIn pairK
  rw [Sem.run_bind, run_underlying Tryz.underlying69]
  by_cases h1 : x = x' <;> by_cases h2 : y = y' <;>
  simp [List.range', part_fst, part_snd, eq_int, h1, h2]
theorem key_pair : KeyTy Tryz.prog 69 PairKey := by
  refine wide_key (by kernel_rfl) ?_ ?_ ?_
  · rintro w em v ⟨x, y, rfl⟩
    exact check_pair w em x y
  · rintro w a b ⟨x, y, rfl⟩ ⟨x', y', rfl⟩
    refine ⟨_, equal_pair w x y x' y', ?_⟩
    simp [pairK]
  · rintro w v ⟨x, y, rfl⟩
    simp [Instr.keyThatStays, Instr.sameBits, pairK]

def queryK (f a : ByteArray) : Value := .agg #[.string f, .string a]
def QueryKey (v : Value) : Prop := ∃ f a : ByteArray, v = queryK f a
theorem part_query (w : World) (f a : ByteArray) (k : Nat) (v : Value) (h : (#[Value.string f, Value.string a] : Array Value)[k]? = some v) : (part 9 #[Value.string f, Value.string a] k).run Tryz.prog w = .ok v w := run_part_plain w (by kernel_rfl) h
theorem check_str (em : Bool) (n : Nat) (x : ByteArray) (w : World) : (Instr.checkKey em (n + 1) 9 (.string x)).run Tryz.prog w = .ok () w := by
  simp [Instr.checkKey, run_underlying Tryz.underlying9]
theorem eq_str (n : Nat) (x y : ByteArray) (w : World) : (Op.equalIn (n + 1) 9 (.string x) (.string y)).run Tryz.prog w = .ok (x == y) w := by
  simp [Op.equalIn, run_underlying Tryz.underlying9]
theorem bytes_ne {x y : ByteArray} (h : x ≠ y) : (x == y) = false := by
  cases hb : (x == y)
  · rfl
  · exact absurd ((MapKept.bytes_beq x y).1 hb) h
set_option maxRecDepth 100000 in
theorem check_query (w : World) (em : Bool) (f a : ByteArray) : (Instr.checkKey em 10000 88 (queryK f a)).run Tryz.prog w = .ok () w := by
  unfold Instr.checkKey queryK
  rw [Sem.run_bind, run_underlying Tryz.underlying88]
  simp [part_query w f a 0 (.string f) rfl, part_query w f a 1 (.string a) rfl, check_str]
set_option maxRecDepth 100000 in
theorem equal_query (w : World) (f a f' a' : ByteArray) : ∃ r, (Op.equal 88 (queryK f a) (queryK f' a')).run Tryz.prog w = .ok r w ∧ (r = true ↔ queryK f a = queryK f' a') := by
  unfold Op.equal Op.maxDepth Op.equalIn queryK
  rw [Sem.run_bind, run_underlying Tryz.underlying88]
  by_cases h1 : f = f'
  · subst h1
    have e1 : (f == f) = true := (MapKept.bytes_beq f f).2 rfl
    by_cases h2 : a = a'
    · subst h2
      have e2 : (a == a) = true := (MapKept.bytes_beq a a).2 rfl
      exact ⟨true, by simp [part_query w f a 0 (.string f) rfl, part_query w f a 1 (.string a) rfl, eq_str, e1, e2], by simp⟩
    · have e2 := bytes_ne h2
      exact ⟨false, by simp [part_query w f a 0 (.string f) rfl, part_query w f a 1 (.string a) rfl, part_query w f a' 0 (.string f) rfl, part_query w f a' 1 (.string a') rfl, eq_str, e1, e2], by simp [h2]⟩
  · have e1 := bytes_ne h1
    exact ⟨false, by simp [part_query w f a 0 (.string f) rfl, part_query w f' a' 0 (.string f') rfl, eq_str, e1], by simp [h1]⟩
theorem key_query : KeyTy Tryz.prog 88 QueryKey := by
  refine wide_key (by kernel_rfl) ?_ ?_ ?_
  · rintro w em v ⟨x, y, rfl⟩
    exact check_query w em x y
  · rintro w a b ⟨x, y, rfl⟩ ⟨x', y', rfl⟩
    exact equal_query w x y x' y'
  · rintro w v ⟨x, y, rfl⟩
    simp [Instr.keyThatStays, Instr.sameBits, queryK, (MapKept.bytes_beq x x).2 rfl, (MapKept.bytes_beq y y).2 rfl]
end Go.Proofs.YtkldomkooleecaaGreatDoor
