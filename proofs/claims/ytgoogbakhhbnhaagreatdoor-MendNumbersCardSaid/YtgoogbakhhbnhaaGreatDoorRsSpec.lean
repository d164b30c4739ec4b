
/- RunStates, in plain Lean: the texts of a state, as the program and as the reference make them. -/
import Derived.Lib.ItoaLen
import Derived.Lib.Join
set_option linter.unusedVariables false
set_option linter.unusedSimpArgs false
namespace Go.Proofs.YtgoogbakhhbnhaaGreatDoor.Rs
open Go.Lib

structure Rn where
  off : Int
  page : Int
  count : Int
structure Dn where
  name : List UInt8
  ino : Int
structure Nd where
  ino : Int
  kind : Int
  links : Int
  size : Int
  map : List Rn
  names : List Dn
  head : Int
  tail : Int
  log : List Int
  entries : Int

def hexB (c : UInt8) : UInt8 := if c < 10 then 48 + c else 87 + c
def escB (c : UInt8) : List UInt8 :=
  if c = 10 then [92, 110] else if c = 34 ∨ c = 92 then [92, c] else if 32 ≤ c ∧ c ≤ 126 then [c] else [92, 120, hexB (c / 16), hexB (c % 16)]
def quoteB (s : List UInt8) : List UInt8 := [34] ++ s.flatMap escB ++ [34]
theorem escB_le (c : UInt8) : (escB c).length ≤ 4 := by
  unfold escB
  repeat' split
  all_goals simp
theorem quoteB_le (s : List UInt8) : (quoteB s).length ≤ 4 * s.length + 2 := by
  have h : ∀ l : List UInt8, (l.flatMap escB).length ≤ 4 * l.length := by
    intro l
    induction l with
    | nil => simp
    | cons c l ih => have := escB_le c; simp only [List.flatMap_cons, List.length_append, List.length_cons]; omega
  have := h s
  simp only [quoteB, List.length_append, List.length_cons, List.length_nil]
  omega

def kindB (k : Int) : List UInt8 := if k = 1 then [102, 105, 108, 101] else if k = 2 then [100, 105, 114] else [102, 114, 101, 101]
theorem kindB_le (k : Int) : (kindB k).length ≤ 4 := by
  unfold kindB
  repeat' split
  all_goals simp

def numStr (xs : List Int) : List UInt8 := join (xs.map itoa) [32]
def I64 (x : Int) : Prop := -9223372036854775808 ≤ x ∧ x ≤ 9223372036854775807
theorem itoa_le {x : Int} (h : I64 x) : (itoa x).length ≤ 21 := itoa_length_le x h.1 h.2

theorem lens_le {l : List (List UInt8)} {m : Nat} (h : ∀ x ∈ l, x.length ≤ m) : lens l ≤ m * l.length := by
  induction l with
  | nil => simp [lens]
  | cons x l ih =>
    have h1 := h x (by simp)
    have h2 := ih fun y hy => h y (by simp [hy])
    simp only [lens, List.map_cons, List.sum_cons, List.length_cons, Nat.mul_succ] at h2 ⊢
    omega
theorem join_le (l : List (List UInt8)) (sep : List UInt8) : (join l sep).length ≤ sep.length * l.length + lens l := by
  cases l with
  | nil => simp [join_nil]
  | cons x l =>
    rw [join_cons, List.length_append, joinTail_length]
    simp only [lens, List.map_cons, List.sum_cons, List.length_cons, Nat.mul_succ]
    omega
theorem numStr_le {xs : List Int} (h : ∀ x ∈ xs, I64 x) : (numStr xs).length ≤ 22 * xs.length := by
  have h1 := join_le (xs.map itoa) [32]
  have h2 := lens_le (l := xs.map itoa) (m := 21) (fun x hx => by obtain ⟨z, hz, rfl⟩ := List.mem_map.1 hx; exact itoa_le (h z hz))
  simp only [List.length_map, List.length_cons, List.length_nil] at h1 h2
  unfold numStr
  omega
end Go.Proofs.YtgoogbakhhbnhaaGreatDoor.Rs
