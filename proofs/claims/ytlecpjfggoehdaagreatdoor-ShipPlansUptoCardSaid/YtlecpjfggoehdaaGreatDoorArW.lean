
/- Archive: the plain law: what the program asks of a list is what the reference asks. -/
import Derived.Test.YtlecpjfggoehdaaGreatDoorArR
import Derived.Test.YtlecpjfggoehdaaGreatDoorArT
set_option linter.unusedVariables false
set_option linter.unusedSimpArgs false
set_option maxRecDepth 100000
namespace Go.Proofs.YtlecpjfggoehdaaGreatDoor.Ar
open Go.RowKit Go.Sort Go.Lib Go.Proofs.YtlecpjfggoehdaaGreatDoor.Rs

def updI (f : List UInt8 → Int) (key : List UInt8) (x : Int) : List UInt8 → Int := fun q => if q = key then x else f q

/-! ### names and the parent -/
theorem split47_form : ∀ p : List UInt8, ∃ xs y, split47 p = xs ++ [y] ∧ (47 : UInt8) ∉ y ∧ p = (xs.map (· ++ [47])).flatten ++ y
  | [] => ⟨[], [], rfl, by simp, rfl⟩
  | c :: r => by
    obtain ⟨xs, y, h1, h2, h3⟩ := split47_form r
    by_cases hc : c = 47
    · subst hc
      exact ⟨[] :: xs, y, by rw [split47, if_pos rfl, h1]; rfl, h2, by rw [List.map_cons, List.flatten_cons]; simp only [List.nil_append, List.singleton_append, List.cons_append, List.cons.injEq, true_and]; exact h3⟩
    · rw [split47, if_neg hc, h1]
      cases xs with
      | nil => exact ⟨[], c :: y, rfl, by simp [h2, Ne.symm hc], by simp [h3]⟩
      | cons x xs => exact ⟨(c :: x) :: xs, y, by simp [glue], h2, by simp [h3]⟩
theorem parentAt_none (p : List UInt8) : ∀ k, (∀ j, j < k → p[j]? ≠ some 47) → parentAt p k = []
  | 0, _ => rfl
  | k + 1, h => by rw [parentAt, if_neg (h k (by omega)), parentAt_none p k (fun j hj => h j (by omega))]
theorem parentAt_last (p : List UInt8) (n : Nat) (h47 : p[n]? = some 47) : ∀ k, n < k → (∀ j, n < j → j < k → p[j]? ≠ some 47) → parentAt p k = p.take n
  | 0, h, _ => by omega
  | k + 1, h, hh => by
    by_cases e : k = n
    · subst e; rw [parentAt, if_pos h47]
    · rw [parentAt, if_neg (hh k (by omega) (by omega)), parentAt_last p n h47 k (by omega) (fun j h1 h2 => hh j h1 (by omega))]
theorem flat_join : ∀ (xs : List (List UInt8)), xs ≠ [] → (xs.map (· ++ [47])).flatten = Lib.join xs [47] ++ [47]
  | [], h => absurd rfl h
  | [x], _ => by simp [Lib.join, List.intercalate]
  | x :: y :: r, _ => by
    have ih := flat_join (y :: r) (by simp)
    rw [List.map_cons, List.flatten_cons, ih]
    simp [Lib.join, List.intercalate, List.intersperse]
theorem parentB_names {p : List UInt8} {xs : List (List UInt8)} {y : List UInt8} (hs : split47 p = xs ++ [y]) : parentB p = Lib.join xs [47] := by
  obtain ⟨xs', y', h1, h2, h3⟩ := split47_form p
  rw [h1] at hs
  obtain ⟨e1, e2⟩ := List.append_inj' hs rfl
  obtain rfl : y' = y := by simpa using e2
  subst e1
  have hno : ∀ j : Nat, y'[j]? ≠ some (47 : UInt8) := fun j hj => h2 (List.mem_of_getElem? hj)
  unfold parentB
  by_cases hx : xs' = []
  · subst hx
    simp only [List.map_nil, List.flatten_nil, List.nil_append] at h3
    rw [h3, parentAt_none _ _ (fun j _ => hno j)]
    simp [Lib.join, List.intercalate]
  · rw [flat_join xs' hx] at h3
    have hl : p.length = (Lib.join xs' [47]).length + 1 + y'.length := by rw [h3]; simp; omega
    rw [parentAt_last p (Lib.join xs' [47]).length (by rw [h3, List.append_assoc, List.getElem?_append_right (Nat.le_refl _)]; simp) _ (by omega) (fun j h4 h5 => by
      rw [h3, List.getElem?_append_right (by simp; omega)]
      exact hno _)]
    rw [h3, List.append_assoc, List.take_left']
    rfl
theorem names_some {p : List UInt8} {ns : List (List UInt8)} (h : namesB p = some ns) : split47 p = ns ∧ ns.all validB = true ∧ p.length ≤ 199 := by
  unfold namesB at h
  split at h
  · cases h
  · split at h
    · rename_i h1 h2
      cases h
      exact ⟨rfl, h2, by omega⟩
    · cases h
theorem join_nil {xs : List (List UInt8)} (h : ∀ x ∈ xs, x ≠ []) : (Lib.join xs [47]).isEmpty = decide (xs.length = 0) := by
  cases xs with
  | nil => simp [Lib.join, List.intercalate]
  | cons x r =>
    have hx := h x (by simp)
    cases r with
    | nil => simpa [Lib.join, List.intercalate] using hx
    | cons y r => simp [Lib.join, List.intercalate, List.intersperse]
theorem valid_ne {n : List UInt8} (h : validB n = true) : n ≠ [] := by
  rintro rfl
  simp [validB] at h
theorem parent_of {p : List UInt8} {ns : List (List UInt8)} (h : namesB p = some ns) : parentB p = Lib.join (ns.take (ns.length - 1)) [47] ∧ (parentB p).isEmpty = decide (ns.length ≤ 1) := by
  obtain ⟨h1, h2, _⟩ := names_some h
  obtain ⟨xs, y, h3, _⟩ := split47_form p
  have h4 : ns = xs ++ [y] := h1.symm.trans h3
  have hp := parentB_names h3
  have ht : ns.take (ns.length - 1) = xs := by rw [h4]; simp
  rw [ht, hp]
  refine ⟨rfl, ?_⟩
  rw [join_nil (fun x hx => valid_ne (List.all_eq_true.1 h2 x (by rw [h4]; simp [hx]))), h4]
  simp

/-! ### the order is one -/
theorem bytesLess_irrefl : ∀ x : List UInt8, Op.bytesLess x x = false
  | [] => rfl
  | a :: x => by simp [Op.bytesLess, bytesLess_irrefl x]
theorem bytesLess_trans : ∀ {x y z : List UInt8}, Op.bytesLess x y = true → Op.bytesLess y z = true → Op.bytesLess x z = true
  | [], y, z, h1, h2 => by
    cases z with
    | nil => cases y <;> simp [Op.bytesLess] at h1 h2
    | cons c z => simp [Op.bytesLess]
  | a :: x, [], z, h1, h2 => by simp [Op.bytesLess] at h1
  | a :: x, b :: y, [], h1, h2 => by simp [Op.bytesLess] at h2
  | a :: x, b :: y, c :: z, h1, h2 => by
    simp only [Op.bytesLess, Bool.or_eq_true, decide_eq_true_eq, Bool.and_eq_true, beq_iff_eq] at h1 h2 ⊢
    rcases h1 with h1 | ⟨rfl, h1⟩
    · rcases h2 with h2 | ⟨rfl, h2⟩
      · exact .inl (UInt8.lt_trans h1 h2)
      · exact .inl h1
    · rcases h2 with h2 | ⟨rfl, h2⟩
      · exact .inl h2
      · exact .inr ⟨rfl, bytesLess_trans h1 h2⟩
theorem aheadB_irrefl : ∀ x : List (List UInt8), aheadB x x = false
  | [] => rfl
  | a :: x => by rw [aheadB, if_pos rfl, aheadB_irrefl x]
theorem aheadB_trans : ∀ {x y z : List (List UInt8)}, aheadB x y = true → aheadB y z = true → aheadB x z = true
  | [], y, z, h1, h2 => by
    cases z with
    | nil => cases y <;> simp [aheadB] at h1 h2
    | cons c z => simp [aheadB]
  | a :: x, [], z, h1, h2 => by simp [aheadB] at h1
  | a :: x, b :: y, [], h1, h2 => by simp [aheadB] at h2
  | a :: x, b :: y, c :: z, h1, h2 => by
    rw [aheadB] at h1 h2 ⊢
    by_cases e1 : a = b
    · rw [if_pos e1] at h1
      by_cases e2 : b = c
      · rw [if_pos e2] at h2
        rw [if_pos (e1.trans e2)]
        exact aheadB_trans h1 h2
      · rw [if_neg e2] at h2
        rw [if_neg (fun e => e2 (e1.symm.trans e)), e1]
        exact h2
    · rw [if_neg e1] at h1
      by_cases e2 : b = c
      · rw [if_neg (fun e => e1 (e.trans e2.symm)), ← e2]
        exact h1
      · rw [if_neg e2] at h2
        have h3 := bytesLess_trans h1 h2
        rw [if_neg (fun e => by rw [e, bytesLess_irrefl] at h3; cases h3)]
        exact h3

/-! ### what the program asks -/
def linkOkP (fk fl : List UInt8 → Int) (m : Mb) : Bool := bareB m && (decide (fk m.link = 1) && decide (fl m.link + 1 < 100))
def kindOkP (fk fl : List UInt8 → Int) (m : Mb) : Bool :=
  if m.kind = 2 then bareB m && m.link.isEmpty else if m.kind = 1 then m.link.isEmpty && piecesB m.size m.pieces else if m.kind = 3 then linkOkP fk fl m else false
def upOkP (fk : List UInt8 → Int) (ns : List (List UInt8)) : Bool := decide (ns.length ≤ 1) || decide (fk (Lib.join (ns.take (ns.length - 1)) [47]) = 2)
def orderOkP (last : Option (List (List UInt8))) (ns : List (List UInt8)) : Bool := match last with
  | none => true
  | some l => aheadB l ns
def addOk (last : Option (List (List UInt8))) (fk fl : List UInt8 → Int) (m : Mb) : Bool := match namesB m.path with
  | none => false
  | some ns => orderOkP last ns && (upOkP fk ns && kindOkP fk fl m)
/-- what is known behind the first k members -/
def lastAt (l : List Mb) : Nat → Option (List (List UInt8))
  | 0 => none
  | k + 1 => (l[k]?.map (fun m => namesB m.path)).getD none
def fkAt (l : List Mb) : Nat → List UInt8 → Int
  | 0 => fun _ => 0
  | k + 1 => match l[k]? with
    | none => fkAt l k
    | some m => updI (fkAt l k) m.path m.kind
def flAt (l : List Mb) : Nat → List UInt8 → Int
  | 0 => fun _ => 0
  | k + 1 => match l[k]? with
    | none => flAt l k
    | some m => if m.kind = 3 then updI (flAt l k) m.link (flAt l k m.link + 1) else flAt l k
def addAt (l : List Mb) (i : Nat) (m : Mb) : Bool := addOk (lastAt l i) (fkAt l i) (flAt l i) m
def pGood (l : List Mb) : Bool := decide (l.length ≤ 8192) && (List.range l.length).all fun i => (l[i]?.map (addAt l i)).getD true

theorem flAt_count (l : List Mb) (q : List UInt8) : ∀ k, flAt l k q = (((l.take k).filter (fun x => decide (x.kind = 3) && x.link == q)).length : Int)
  | 0 => by simp [flAt]
  | k + 1 => by
    have ih := flAt_count l q k
    rw [flAt, List.take_add_one]
    cases hm : l[k]? with
    | none => simpa using ih
    | some m =>
      simp only [Option.toList_some, List.filter_append, List.length_append]
      by_cases h3 : m.kind = 3
      · simp only [h3, if_true, updI]
        by_cases hq : q = m.link
        · rw [if_pos hq, ← hq, ih]; simp [List.filter_cons, h3, hq]
        · rw [if_neg hq, ih]; simp [List.filter_cons, h3, Ne.symm hq]
      · simp only [h3, if_false]
        rw [ih]; simp [List.filter_cons, h3]
theorem linkCount_at {l : List Mb} {i : Nat} {m : Mb} (hm : l[i]? = some m) : decide (linkCount l m (i + 1) < 100) = (decide (¬ m.kind = 3) || decide (flAt l i m.link + 1 < 100)) := by
  unfold linkCount
  by_cases h3 : m.kind = 3
  · have e : (fun x => isLinkOf m x) = (fun x => decide (x.kind = 3) && x.link == m.link) := by funext x; simp [isLinkOf, h3]
    have e' : isLinkOf m = (fun x => decide (x.kind = 3) && x.link == m.link) := e
    have h := flAt_count l m.link (i + 1)
    have h2 : flAt l (i + 1) m.link = flAt l i m.link + 1 := by rw [flAt, hm]; simp [h3, updI]
    rw [e', ← h2, h]
    simp [h3]
    omega
  · have e : isLinkOf m = fun _ => false := by funext x; simp [isLinkOf, h3]
    have e2 : ∀ x : List Mb, x.filter (fun _ => false) = [] := fun x => by simp
    rw [e, e2]
    simp [h3]

/-- The first i members stand as they should. -/
def OkUpto (l : List Mb) (i : Nat) : Prop := ∀ j m, j < i → l[j]? = some m → stepOk l j m = true
theorem ok_names {l : List Mb} {j : Nat} {m : Mb} (h : stepOk l j m = true) : ∃ ns, namesB m.path = some ns ∧ orderOk l j ns = true ∧ (m.kind = 1 ∨ m.kind = 2 ∨ m.kind = 3) := by
  rw [stepOk, Bool.and_eq_true] at h
  have h1 := h.1
  unfold fitsB at h1
  cases hn : namesB m.path with
  | none => rw [hn] at h1; cases h1
  | some ns =>
    rw [hn] at h1
    simp only [Bool.and_eq_true] at h1
    refine ⟨ns, rfl, h1.1.1, ?_⟩
    have h2 := h1.2
    unfold kindOk at h2
    split at h2
    · right; left; assumption
    · split at h2
      · left; assumption
      · split at h2
        · right; right; assumption
        · cases h2
theorem ok_chain {l : List Mb} {i : Nat} (h : OkUpto l i) : ∀ (d j : Nat) (a b : Mb) (na nb : List (List UInt8)), j + d + 1 < i → l[j]? = some a → l[j + d + 1]? = some b → namesB a.path = some na → namesB b.path = some nb → aheadB na nb = true := by
  intro d
  induction d with
  | zero =>
    intro j a b na nb hj ha hb hna hnb
    obtain ⟨ns, h1, h2, _⟩ := ok_names (h (j + 1) b hj hb)
    rw [hnb] at h1
    cases h1
    rw [orderOk] at h2
    simp only [Nat.add_sub_cancel, ha, Option.map_some, Option.getD_some, hna, Nat.add_eq_zero_iff, Nat.succ_ne_self, and_false, decide_false, Bool.false_or] at h2
    exact h2
  | succ d ih =>
    intro j a b na nb hj ha hb hna hnb
    obtain ⟨c, hc⟩ : ∃ c, l[j + d + 1]? = some c := by
      have := (List.getElem?_eq_some_iff.1 hb).1
      exact ⟨_, List.getElem?_eq_getElem (by omega)⟩
    obtain ⟨nc, hnc, _⟩ := ok_names (h (j + d + 1) c (by omega) hc)
    have h1 := ih j a c na nc (by omega) ha hc hna hnc
    obtain ⟨ns, h3, h2, _⟩ := ok_names (h (j + (d + 1) + 1) b hj hb)
    rw [hnb] at h3
    cases h3
    rw [orderOk] at h2
    have e : j + (d + 1) + 1 - 1 = j + d + 1 := by omega
    rw [e, hc] at h2
    simp only [Option.map_some, Option.getD_some, hnc, Nat.add_eq_zero_iff, Nat.succ_ne_self, and_false, decide_false, Bool.false_or] at h2
    exact aheadB_trans h1 h2
theorem ok_distinct {l : List Mb} {i : Nat} (h : OkUpto l i) {j k : Nat} {a b : Mb} (hj : j < k) (hk : k < i) (ha : l[j]? = some a) (hb : l[k]? = some b) : a.path ≠ b.path := by
  intro e
  obtain ⟨na, hna, _⟩ := ok_names (h j a (by omega) ha)
  obtain ⟨d, rfl⟩ : ∃ d, k = j + d + 1 := ⟨k - j - 1, by omega⟩
  have := ok_chain h d j a b na na hk ha hb hna (by rw [← e]; exact hna)
  rw [aheadB_irrefl] at this
  cases this
theorem kAt_succ {l : List Mb} {k : Nat} {m : Mb} (hm : l[k]? = some m) (q : List UInt8) : kAt l (k + 1) q = match kAt l k q with
    | some x => some x
    | none => if m.path = q then some m.kind else none := by
  unfold kAt
  rw [List.take_add_one, hm, Option.toList_some, List.find?_append]
  cases h : (l.take k).find? (fun m => m.path == q) with
  | some x => simp
  | none => by_cases e : m.path = q <;> simp [List.find?_cons, e]
theorem fkAt_kAt {l : List Mb} {i : Nat} (h : OkUpto l i) (hi : i ≤ l.length) (q : List UInt8) : ∀ k, k ≤ i → fkAt l k q = (kAt l k q).getD 0
  | 0, _ => by simp [fkAt, kAt]
  | k + 1, hk => by
    have ih := fkAt_kAt h hi q k (by omega)
    obtain ⟨m, hm⟩ : ∃ m, l[k]? = some m := ⟨_, List.getElem?_eq_getElem (by omega)⟩
    rw [fkAt, hm]
    simp only [updI]
    rw [kAt_succ hm]
    by_cases e : q = m.path
    · rw [if_pos e]
      have hno : kAt l k q = none := by
        rcases atI_cases l k q (by omega) with ⟨_, h2⟩ | ⟨j, x, h1, h2, h3, h4⟩
        · exact h2
        · exfalso
          have hp : x.path = q := by
            unfold atI at h3
            split at h3
            · rename_i i' he
              obtain ⟨_, e2, _⟩ := List.findIdx?_eq_some_iff_getElem.1 he
              have : i' = j := by omega
              subst this
              rw [List.getElem_take] at e2
              have := (List.getElem?_eq_some_iff.1 h2).2
              rw [this] at e2
              simpa using e2
            · omega
          exact ok_distinct h h1 (by omega) h2 hm (hp.trans e)
      rw [hno]
      simp [e]
    · rw [if_neg e, ih]
      cases kAt l k q with
      | some x => rfl
      | none => simp [Ne.symm e]
theorem fk_two {x : Option Int} {c : Int} (hc : c ≠ 0) : decide (x.getD 0 = c) = decide (x = some c) := by
  cases x with
  | none => simp [Ne.symm hc]
  | some y => simp
/-- step by step the two ask the same -/
theorem add_step {l : List Mb} {i : Nat} {m : Mb} (h : OkUpto l i) (hm : l[i]? = some m) : addAt l i m = stepOk l i m := by
  have hlt := (List.getElem?_eq_some_iff.1 hm).1
  have hfk := fun q => fkAt_kAt h (by omega) q i (Nat.le_refl _)
  unfold addAt addOk stepOk fitsB
  cases hn : namesB m.path with
  | none => rfl
  | some ns =>
    simp only
    obtain ⟨hp1, hp2⟩ := parent_of hn
    have hup : upOkP (fkAt l i) ns = upOk l i m.path := by
      unfold upOkP upOk
      rw [← hp1, hp2, hfk, fk_two (by decide)]
    have hord : orderOkP (lastAt l i) ns = orderOk l i ns := by
      unfold orderOkP orderOk
      cases i with
      | zero => simp [lastAt]
      | succ k =>
        obtain ⟨x, hx⟩ : ∃ x, l[k]? = some x := ⟨_, List.getElem?_eq_getElem (by omega)⟩
        obtain ⟨nx, hnx, _⟩ := ok_names (h k x (by omega) hx)
        simp [lastAt, hx, hnx]
    rw [hup, hord, linkCount_at hm]
    unfold kindOkP kindOk linkOkP
    rw [hfk, fk_two (by decide)]
    cases orderOk l i ns <;> cases upOk l i m.path <;> simp only [Bool.false_and, Bool.true_and, Bool.and_false]
    by_cases h2 : m.kind = 2
    · simp [h2, bareB]
      cases m.link.isEmpty <;> simp
    · by_cases h1 : m.kind = 1
      · simp [h1]
      · by_cases h3 : m.kind = 3
        · simp only [h3, if_true, bareB]
          simp
          cases decide (kAt l i m.link = some 1) <;> cases decide (m.size = 0) <;> cases m.pieces.isEmpty <;> simp
        · simp [h1, h2, h3]
theorem add_upto {l : List Mb} : ∀ i, i ≤ l.length → (∀ j m, j < i → l[j]? = some m → addAt l j m = true) → OkUpto l i
  | 0, _, _ => fun j m hj => by omega
  | i + 1, hi, h => fun j m hj hm => by
    have ih := add_upto i (by omega) (fun j m hj => h j m (by omega))
    by_cases e : j = i
    · subst e
      rw [← add_step ih hm]
      exact h j m (by omega) hm
    · exact ih j m (by omega) hm
theorem goodB_iff {l : List Mb} : goodB l = true ↔ l.length ≤ 8192 ∧ OkUpto l l.length := by
  constructor
  · intro h
    unfold goodB at h
    rw [Bool.and_eq_true] at h
    refine ⟨of_decide_eq_true h.1, fun j m hj hm => ?_⟩
    have := List.all_eq_true.1 h.2 j (by simpa using hj)
    rw [hm] at this
    simpa using this
  · rintro ⟨h1, h2⟩
    exact goodB_true h1 (fun i m hi hm => h2 i m hi hm)
/-- all members that are added in turn: the list is good -/
theorem good_of_adds {l : List Mb} (hl : l.length ≤ 8192) (h : ∀ j m, j < l.length → l[j]? = some m → addAt l j m = true) : goodB l = true :=
  goodB_iff.2 ⟨hl, add_upto _ (Nat.le_refl _) h⟩
/-- one that isn't: it isn't -/
theorem bad_of_add {l : List Mb} {i : Nat} {m : Mb} (h : ∀ j m, j < i → l[j]? = some m → addAt l j m = true) (hm : l[i]? = some m) (hb : addAt l i m = false) : goodB l = false := by
  have hlt := (List.getElem?_eq_some_iff.1 hm).1
  have hu := add_upto i (by omega) h
  rw [add_step hu hm] at hb
  exact goodB_false hm hb
end Go.Proofs.YtlecpjfggoehdaaGreatDoor.Ar
