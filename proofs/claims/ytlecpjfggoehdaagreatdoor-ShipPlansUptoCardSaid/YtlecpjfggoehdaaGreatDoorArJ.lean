
/- Archive: a path's names. -/
import Derived.Test.YtlecpjfggoehdaaGreatDoorArI
import Derived.Lib.SplitLaws
set_option linter.unusedVariables false
set_option linter.unusedSimpArgs false
set_option maxRecDepth 100000
namespace Go.Proofs.YtlecpjfggoehdaaGreatDoor.Ar
open Go.RowKit Go.Sort Go.Lib Go.Proofs.YtlecpjfggoehdaaGreatDoor.Rs

def glue (x : List UInt8) : List (List UInt8) → List (List UInt8)
  | [] => [x]
  | y :: r => (x ++ y) :: r
def split47 : List UInt8 → List (List UInt8)
  | [] => [[]]
  | c :: r => if c = 47 then [] :: split47 r else glue [c] (split47 r)
theorem glue_glue (x y : List UInt8) (l : List (List UInt8)) : glue x (glue y l) = glue (x ++ y) l := by cases l <;> simp [glue]
theorem glue_nil {l : List (List UInt8)} (h : l ≠ []) : glue [] l = l := by cases l <;> simp_all [glue]
theorem split47_ne : ∀ p, split47 p ≠ []
  | [] => by simp [split47]
  | c :: r => by
    unfold split47
    split
    · simp
    · cases split47 r <;> simp [glue]
theorem splitK_split47 : ∀ p : List UInt8, Lib.splitK [47] 0 (Lib.count p [47]) p = split47 p
  | [] => by rw [Lib.count_miss (by simp [Lib.index])]; rfl
  | c :: r => by
    have ih := splitK_split47 r
    by_cases h : c = 47
    · subst h
      have hix : Lib.index (47 :: r) [47] = 0 := by rw [Lib.index]; simp [List.isPrefixOf]
      rw [Lib.count_cons_eq, Nat.add_comm, Lib.splitK, hix, split47, if_pos rfl, ← ih]
      simp
    · rw [Lib.count_cons_ne c 47 r h, split47, if_neg h, ← ih]
      have hp : ([47] : List UInt8).isPrefixOf (c :: r) = false := by simp [List.isPrefixOf, Ne.symm h]
      have hix : Lib.index (c :: r) [47] = if Lib.index r [47] == -1 then -1 else Lib.index r [47] + 1 := by rw [Lib.index, hp]; simp
      by_cases hm : Lib.index r [47] = -1
      · rw [Lib.count_miss hm]
        simp [Lib.splitK, glue]
      · have hge := Lib.index_ge r [47]
        obtain ⟨j, hj⟩ : ∃ j : Nat, Lib.index r [47] = j := ⟨(Lib.index r [47]).toNat, by omega⟩
        rw [Lib.count_hit (by simp) hj, Nat.add_comm, Lib.splitK, Lib.splitK, hix, hj]
        have e1 : ¬ ((j : Int) == -1) = true := by simp
        have e2 : ¬ ((j : Int) + 1 == -1) = true := by simp; omega
        rw [if_neg e1, if_neg e2, if_neg e1]
        have e3 : ((j : Int) + 1).toNat = j + 1 := by omega
        rw [e3]
        simp [glue]
theorem splitB_split47 (p : List UInt8) : Lib.splitB ⟨#[47]⟩ 0 (Lib.countB (bs p) ⟨#[47]⟩) (bs p) = (split47 p).map bs := by
  have h := Lib.splitB_data ⟨#[47]⟩ 0 (Lib.countB (bs p) ⟨#[47]⟩) (bs p)
  have e : Lib.countB (bs p) ⟨#[47]⟩ = Lib.count p [47] := rfl
  rw [e] at h ⊢
  have h2 : (Lib.splitB ⟨#[47]⟩ 0 (Lib.count p [47]) (bs p)).map (·.data.toList) = split47 p := h.trans (splitK_split47 p)
  rw [← h2, List.map_map]
  conv => lhs; rw [← List.map_id (Lib.splitB ⟨#[47]⟩ 0 (Lib.count p [47]) (bs p))]
  apply List.map_congr_left
  intro x _
  simp [bs]
theorem split47_len (p : List UInt8) : (split47 p).length = Lib.countB (bs p) ⟨#[47]⟩ + 1 := by
  have := Lib.splitB_all ⟨#[47]⟩ (by decide) 0 _ (bs p) rfl
  rw [splitB_split47, List.length_map] at this
  exact this

def namesB (p : List UInt8) : Option (List (List UInt8)) := if 199 < p.length then none else if (split47 p).all validB then some (split47 p) else none
/-- A list of names as a value. -/
def NmV (w : World) (v : Value) : Option (List (List UInt8)) → Prop
  | none => v = .slice none 0 0
  | some l => ∃ B c, v = .slice (some ⟨B, 0, none⟩) l.length c ∧ l.length ≤ c ∧ (∀ j s, l[j]? = some s → w.cell? ⟨B, j, none⟩ = some (.string (bs s)))
theorem NmV.keep {w w' : World} {v : Value} {o : Option (List (List UInt8))} (h : NmV w v o) (hk : Keeps w w') : NmV w' v o := by
  cases o with
  | none => exact h
  | some l =>
    obtain ⟨B, c, e, hc, hs⟩ := h
    exact ⟨B, c, e, hc, fun j s hj => hk _ _ _ (hs j s hj)⟩
def MaxL (w : World) : Prop := ∃ m : Int, w.cell? ⟨2, 0, none⟩ = some (.int .i64 m)
theorem MaxL.below {w w' : World} (h : MaxL w) (hb : Below w.heap.size w w') : MaxL w' := by
  obtain ⟨m, hm⟩ := h
  exact ⟨m, keeps_below hb _ _ _ hm⟩

/-- strings.Split at "/" -/
theorem call_split (p : List UInt8) (hp : p.length ≤ 1048576) (w : World) (hm : MaxL w) :
    Calls Tryz.prog 59 #[.string (bs p), .string ⟨#[47]⟩] w fun e w' => e = .returned (.slice (some ⟨w.heap.size, 0, none⟩) (split47 p).length (split47 p).length) ∧ Row w' w.heap.size 9 ((split47 p).map fun s => .string (bs s)) ∧ Below w.heap.size w w' := by
  obtain ⟨m, hm⟩ := hm
  refine (Tryz.strings_Split (bs p) ⟨#[47]⟩ m w (by rw [bs_size]; omega) hm (by decide)).mono fun e w' h => ?_
  obtain ⟨rfl, rfl⟩ := h
  rw [splitB_split47, List.map_map, split47_len]
  exact ⟨rfl, Row.new w 9 _, below_alloc1 w _⟩

theorem all_take_succ' {α : Type} {f : α → Bool} {l : List α} {k : Nat} {c : α} (hc : l[k]? = some c) : (l.take (k + 1)).all f = ((l.take k).all f && f c) := by
  rw [List.take_add_one, hc, List.all_append]; simp
theorem all_false' {α : Type} {f : α → Bool} {l : List α} {k : Nat} {c : α} (hc : l[k]? = some c) (h : f c = false) : l.all f = false := by
  rw [Bool.eq_false_iff]
  intro ha
  have := List.all_eq_true.1 ha c (List.mem_of_getElem? hc)
  rw [h] at this
  cases this
theorem glue_le (x : List UInt8) : ∀ l : List (List UInt8), (∀ s ∈ l, s.length ≤ 1000000) → ∀ s ∈ glue x l, s.length ≤ x.length + 1000000
  | [], _, s, hs => by simp [glue] at hs; subst hs; omega
  | y :: r, h, s, hs => by
    simp only [glue, List.mem_cons] at hs
    rcases hs with rfl | hs
    · have := h y (by simp); simp; omega
    · have := h s (by simp [hs]); omega
theorem split47_le : ∀ (p : List UInt8), ∀ s ∈ split47 p, s.length ≤ p.length
  | [], s, hs => by simp [split47] at hs; subst hs; simp
  | c :: r, s, hs => by
    unfold split47 at hs
    have ih := split47_le r
    split at hs
    · rcases List.mem_cons.1 hs with rfl | hs
      · simp
      · have := ih s hs; simp; omega
    · cases hq : split47 r with
      | nil => exact absurd hq (split47_ne r)
      | cons y l =>
        rw [hq] at hs ih
        simp only [glue, List.mem_cons] at hs
        rcases hs with rfl | hs
        · have := ih y (by simp); simp; omega
        · have := ih s (by simp [hs]); simp; omega
theorem split47_length : ∀ (p : List UInt8), (split47 p).length ≤ p.length + 1
  | [] => by simp [split47]
  | c :: r => by
    have ih := split47_length r
    unfold split47
    split
    · simp; omega
    · cases hq : split47 r with
      | nil => exact absurd hq (split47_ne r)
      | cons y l => rw [hq] at ih; simp only [glue, List.length_cons] at ih ⊢; omega

set_option maxHeartbeats 1000000 in
theorem call_names (p : List UInt8) (hp : p.length ≤ 1048576) (w : World) (hm : MaxL w) :
    Calls Tryz.prog 42 #[.string (bs p)] w fun e w' => (∃ v, e = .returned v ∧ NmV w' v (namesB p) ∧ ∀ b, v.ownBlock = some b → w.heap.size ≤ b) ∧ Below w.heap.size w w' := by
  obtain ⟨n, hn⟩ : ∃ n, p.length = n := ⟨_, rfl⟩
  have e0 := bs_toList p
  have z0 : (bs p).size = n := (bs_size p).trans hn
  have HMx := Lib.hid hm
  clear hm
  by_cases h1 : p = []
  · have hv : namesB p = none := by rw [h1]; rfl
    rw [hv]
    replace e0 := e0.trans h1
    clear h1 hv
    go_enter Tryz.func42, Tryz.ntmps42
    go_wp2
    go_ret
    exact ⟨⟨_, rfl, rfl, fun b h => by cases h⟩, Below.refl _ _⟩
  · have q1 : p.isEmpty = false := by simpa using h1
    by_cases h2 : 199 < n
    · have hv : namesB p = none := by rw [namesB, if_pos (by omega)]
      rw [hv]
      clear hv
      go_enter Tryz.func42, Tryz.ntmps42
      go_wp2
      go_ret
      exact ⟨⟨_, rfl, rfl, fun b h => by cases h⟩, Below.refl _ _⟩
    · have hv : namesB p = if (split47 p).all validB then some (split47 p) else none := by rw [namesB, if_neg (by omega)]
      have HV := Lib.hid hv
      obtain ⟨m, hm⟩ : ∃ m, (split47 p).length = m := ⟨_, rfl⟩
      have hm1 : m ≤ 200 := by have := split47_length p; omega
      have hm0 : 0 < m := by rw [← hm]; exact List.length_pos_iff.2 (split47_ne p)
      have HM := Lib.hid hm
      have HLe : Hid (∀ s ∈ split47 p, s.length ≤ 1048576) := fun s hs => Nat.le_trans (split47_le p s hs) hp
      have HP := Lib.hid hp
      have H2 : ¬ (199 : Int) < n := by omega
      clear hv hm hn h2 hp
      go_enter Tryz.func42, Tryz.ntmps42
      go_wp2_with (go_at_call 59; refine (call_split p HP.out w HMx.out).mono ?_; rintro e w1 ⟨rfl, hr1, hb1⟩; rw [HM.out]; have HR := Lib.hid hr1; have HB := Lib.hid hb1; clear hr1 hb1)
      go_loopw [17] (fun i wr => ∃ (k : Nat), i = .int .i64 k ∧ k ≤ m ∧ ((split47 p).take k).all validB = true ∧ Row wr w.heap.size 9 ((split47 p).map fun s => .string (bs s)) ∧ Below w.heap.size w wr)
        (fun i _ => m - (RowKit.intOf i).toNat)
      case atStart => exact ⟨0, rfl, Nat.zero_le _, rfl, HR.out, HB.out⟩
      case round =>
        obtain ⟨k, rfl, hk, hall, hr, hb⟩ := hrel
        clear HR HB
        have HA := Lib.hid hall
        have HR := Lib.hid hr
        have HB := Lib.hid hb
        clear hall hb
        by_cases hlt : k < m
        · obtain ⟨s, hs⟩ : ∃ s, (split47 p)[k]? = some s := ⟨_, List.getElem?_eq_getElem (by have := HM.out; omega)⟩
          have hcw : wr.cell? ⟨w.heap.size, k, none⟩ = some (.string (bs s)) := by rw [hr.cell, List.getElem?_map, hs]; rfl
          have HS := Lib.hid hs
          have HSl := Lib.hid (HLe.out s (List.mem_of_getElem? hs))
          clear hs hr
          cases hvs : validB s with
          | false =>
            have hv2 : namesB p = none := by rw [HV.out, if_neg (by rw [all_false' HS.out hvs]; simp)]
            have HV2 := Lib.hid hv2
            have HVS := Lib.hid hvs
            clear hv2 hvs
            go_wp2_with (go_at_call 60; refine (call_valid s HSl.out _).mono ?_; rintro e w1 ⟨rfl, hb1⟩; rw [HVS.out])
            go_ret
            exact ⟨⟨_, rfl, by rw [HV2.out]; rfl, fun b h => by cases h⟩, below_then HB.out HB.out.size hb1⟩
          | true =>
            have HVS := Lib.hid hvs
            clear hvs
            go_wp2_with (go_at_call 60; refine (call_valid s HSl.out _).mono ?_; rintro e w1 ⟨rfl, hb1⟩; rw [HVS.out])
            go_roundw
            case rel => exact ⟨k + 1, by go_num, by omega, by rw [all_take_succ' HS.out, HA.out, HVS.out]; rfl, HR.out.below hb1 HR.out.lt, below_then HB.out HB.out.size hb1⟩
            case measure => simp [RowKit.intOf]; omega
        · obtain rfl : k = m := by omega
          have hv2 : namesB p = some (split47 p) := by
            have h := HA.out
            rw [List.take_of_length_le (by have := HM.out; omega)] at h
            rw [HV.out, if_pos h]
          have HV2 := Lib.hid hv2
          clear hv2 hr
          go_wp2
          go_ret
          refine ⟨⟨_, rfl, ?_, fun b h => by cases h; exact Nat.le_refl _⟩, HB.out⟩
          rw [HV2.out]
          exact ⟨_, _, by rw [HM.out]; rfl, by rw [HM.out]; exact Nat.le_refl _, fun j s hj => by rw [HR.out.cell, List.getElem?_map, hj]; rfl⟩
end Go.Proofs.YtlecpjfggoehdaaGreatDoor.Ar
