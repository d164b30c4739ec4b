/-
  Mend, m: maps whose entries are written out.
-/
import Derived.Test.YtgoogbakhhbnhaaGreatDoorMl
import Derived.RangeFuncRecord
set_option linter.unusedVariables false
set_option linter.unusedSimpArgs false
set_option maxRecDepth 100000
namespace Go.Proofs.YtgoogbakhhbnhaaGreatDoor.Ar
open Go.RowKit Go.Sort Go.Lib Go.Proofs.YtgoogbakhhbnhaaGreatDoor.Rs
/-- entries by number -/
def ents (l : List (Int × Value)) : Nat → List MapEntry
  | i => match l with
    | [] => []
    | x :: l => ⟨.int .i64 x.1, x.2, i⟩ :: ents l (i + 1)
/-- a map's block: entries by number, none ever struck -/
def MapI (w : World) (b : Nat) (l : List (Int × Value)) : Prop := w.heap[b]? = some (.map (ents l 0).toArray l.length)
def atI : List (Int × Value) → Int → Option Value
  | [], _ => none
  | x :: l, k => if k = x.1 then some x.2 else atI l k
def atI' : List (Int × Value) → Int → Nat → Option (Nat × Value)
  | [], _, _ => none
  | x :: l, k, i => if k = x.1 then some (i, x.2) else atI' l k (i + 1)
theorem atI'_map (k : Int) : ∀ (l : List (Int × Value)) (i : Nat), (atI' l k i).map (·.2) = atI l k
  | [], _ => rfl
  | x :: l, i => by
    simp only [atI', atI]
    split
    · rfl
    · exact atI'_map k l (i + 1)
theorem find_ents (k : Int) : ∀ (l : List (Int × Value)) (i b : Nat), Instr.findNow (.int .i64) (.int .i64 k) (ents l b) i = some (atI' l k i)
  | [], _, _ => rfl
  | x :: l, i, b => by
    simp only [ents, Instr.findNow, Instr.sameNow, if_true, atI']
    by_cases h : k = x.1
    · simp [h]
    · rw [if_neg h]
      have : (k == x.1) = false := by simpa using h
      rw [this]
      exact find_ents k l (i + 1) (b + 1)
theorem MapI.made (w : World) : MapI (w.alloc (.map #[] 0)) w.heap.size [] := World.alloc_heap_new w _
theorem MapI.lt {w : World} {b : Nat} {l : List (Int × Value)} (h : MapI w b l) : b < w.heap.size := (Array.getElem?_eq_some_iff.1 h).1
theorem MapI.below {w w' : World} {b N : Nat} {l : List (Int × Value)} (h : MapI w b l) (hb : Below N w w') (hN : b < N) : MapI w' b l := (hb.block _ hN).trans h
theorem MapI.set {w : World} {b : Nat} {l : List (Int × Value)} (h : MapI w b l) (p : Addr) (v : Value) (hne : b ≠ p.block) : MapI (w.setCell p v) b l := (Below.heap_setCell w p v b hne).trans h
variable {P : Program} {T K E : TypeId} {w : World} {b : Nat} {l : List (Int × Value)}
theorem run_check_i (hK : P.underlying K = some (.int .i64)) (e : Bool) (k : Int) (w : World) : (Instr.checkKey e 10000 K (.int .i64 k)).run P w = .ok () w := by
  have : ∀ n, (Instr.checkKey e (n + 1) K (.int .i64 k)).run P w = .ok () w := fun n => by
    unfold Instr.checkKey
    simp [run_underlying hK, Result.andThen]
  exact this 9999
theorem run_find_i (hK : P.underlying K = some (.int .i64)) (k : Int) (l : List (Int × Value)) (w : World) : (Instr.findKey K (.int .i64 k) (ents l 0)).run P w = .ok (atI' l k 0) w := by
  unfold Instr.findKey
  simp [run_underlying hK, Result.andThen, find_ents]
theorem MapI.lookOk (h : MapI w b l) (hT : P.underlying T = some (.map K E)) (hK : P.underlying K = some (.int .i64)) {z : Value} (hz : (zeroValue E).run P w = .ok z w) (k : Int) :
    (Instr.lookup T (.map (some b)) (.int .i64 k) true).run P w = .ok (.tuple #[(atI l k).getD z, .bool (atI l k).isSome]) w := by
  have hm := atI'_map k l 0
  unfold MapI at h
  simp only [Instr.lookup, Sem.run_bind, Sem.run_pure, run_underlying hT, MapKept.run_getObj_map h, run_check_i hK, run_find_i hK, Result.andThen]
  cases he : atI' l k 0 with
  | none => rw [he] at hm; simp [hz, ← hm, Result.andThen]
  | some r => rw [he] at hm; simp [← hm, Result.andThen]
theorem MapI.look (h : MapI w b l) (hT : P.underlying T = some (.map K E)) (hK : P.underlying K = some (.int .i64)) {z : Value} (hz : (zeroValue E).run P w = .ok z w) (k : Int) :
    (Instr.lookup T (.map (some b)) (.int .i64 k) false).run P w = .ok ((atI l k).getD z) w := by
  have hm := atI'_map k l 0
  unfold MapI at h
  simp only [Instr.lookup, Sem.run_bind, Sem.run_pure, run_underlying hT, MapKept.run_getObj_map h, run_check_i hK, run_find_i hK, Result.andThen]
  cases he : atI' l k 0 with
  | none => rw [he] at hm; simp [hz, ← hm, Result.andThen]
  | some r => rw [he] at hm; simp [← hm, Result.andThen]
theorem ents_app (x : Int × Value) : ∀ (l : List (Int × Value)) (i : Nat), ents (l ++ [x]) i = ents l i ++ [⟨.int .i64 x.1, x.2, i + l.length⟩]
  | [], i => by simp [ents]
  | y :: l, i => by
    simp only [List.cons_append, ents, List.length_cons]
    rw [ents_app x l (i + 1), show i + 1 + l.length = i + (l.length + 1) by omega]
theorem atI'_none {k : Int} : ∀ {l : List (Int × Value)} {i : Nat}, atI l k = none → atI' l k i = none
  | [], _, _ => rfl
  | x :: l, i, h => by
    simp only [atI] at h
    split at h
    · cases h
    · rename_i hne
      simp only [atI', if_neg hne]
      exact atI'_none h
/-- a new number -/
theorem MapI.put (h : MapI w b l) (hT : P.underlying T = some (.map K E)) (hK : P.underlying K = some (.int .i64)) {k : Int} (hn : atI l k = none) (v : Value) :
    (Instr.mapUpdate T (.map (some b)) (.int .i64 k) v).run P w = .ok () (w.putObj b (.map (ents (l ++ [(k, v)]) 0).toArray (l ++ [(k, v)]).length)) := by
  unfold MapI at h
  rw [ents_app]
  simp [Instr.mapUpdate, run_underlying hT, MapKept.run_getObj_map h, run_check_i hK, run_find_i hK, atI'_none hn, Result.andThen, MapKept.run_setObj_map _ h, World.putObj]
end Go.Proofs.YtgoogbakhhbnhaaGreatDoor.Ar
