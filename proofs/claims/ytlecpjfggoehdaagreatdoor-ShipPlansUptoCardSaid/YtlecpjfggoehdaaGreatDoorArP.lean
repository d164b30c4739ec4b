
/- Archive: the place of a path in a list, the reference's. -/
import Derived.Test.YtlecpjfggoehdaaGreatDoorArL
set_option linter.unusedVariables false
set_option linter.unusedSimpArgs false
set_option maxRecDepth 100000
namespace Go.Proofs.YtlecpjfggoehdaaGreatDoor.Ar
open Go.RowKit Go.Sort Go.Lib Go.Proofs.YtlecpjfggoehdaaGreatDoor.Rs

/-- A member's five cells. -/
def RMb (w : World) (b o : Nat) (m : Mb) : Prop := ∃ vp, w.cell? ⟨b, o, none⟩ = some (.int .i64 m.kind) ∧ w.cell? ⟨b, o + 1, none⟩ = some (.string (bs m.path)) ∧ w.cell? ⟨b, o + 2, none⟩ = some (.string (bs m.link)) ∧
  w.cell? ⟨b, o + 3, none⟩ = some (.int .i64 m.size) ∧ w.cell? ⟨b, o + 4, none⟩ = some vp ∧ MbV w m vp
theorem RMb.stays : Stays RMb := fun _ _ hk _ _ _ h => by
  obtain ⟨vp, h0, h1, h2, h3, h4, h5⟩ := h
  exact ⟨vp, hk _ _ _ h0, hk _ _ _ h1, hk _ _ _ h2, hk _ _ _ h3, hk _ _ _ h4, h5.keep hk⟩

/-- the place of a path in the first n members; -1: it isn't there -/
def atI (l : List Mb) (n : Nat) (path : List UInt8) : Int := match (l.take n).findIdx? (fun m => m.path == path) with
  | some i => i
  | none => -1
theorem atI_found {l : List Mb} {n k : Nat} {path : List UInt8} {m : Mb} (hn : k < n) (h0 : ∀ j x, j < k → l[j]? = some x → ¬ x.path = path) (hm : l[k]? = some m) (he : m.path = path) : atI l n path = k := by
  have : (l.take n).findIdx? (fun m => m.path == path) = some k := by
    rw [List.findIdx?_eq_some_iff_getElem]
    obtain ⟨h1, h2⟩ := List.getElem?_eq_some_iff.1 hm
    refine ⟨by rw [List.length_take]; omega, ?_, fun j hj => ?_⟩
    · rw [List.getElem_take, h2, he]; simp
    · rw [List.getElem_take]
      simpa using h0 j _ hj (List.getElem?_eq_getElem (by omega))
  rw [atI, this]
theorem atI_none {l : List Mb} {n : Nat} {path : List UInt8} (h0 : ∀ j x, j < n → l[j]? = some x → ¬ x.path = path) : atI l n path = -1 := by
  have : (l.take n).findIdx? (fun m => m.path == path) = none := by
    rw [List.findIdx?_eq_none_iff]
    intro x hx
    obtain ⟨j, hj, rfl⟩ := List.getElem_of_mem hx
    rw [List.getElem_take]
    rw [List.length_take] at hj
    simpa using h0 j _ (by omega) (List.getElem?_eq_getElem (by omega))
  rw [atI, this]

set_option maxHeartbeats 2000000 in
theorem call_at (l : List Mb) (v : Value) (n : Nat) (path : List UInt8) (w : World) (hs : Sl RMb 5 w v l) (hn : n ≤ l.length) (hl : l.length ≤ 1048576) :
    Calls Tryz.prog 84 #[v, .int .i64 n, .string (bs path)] w fun e w' => e = .returned (.int .i64 (atI l n path)) ∧ w' = w := by
  obtain ⟨ap, bb, oo, cp, rfl, ha, hc⟩ := hs
  obtain ⟨mp, hmp⟩ : ∃ n, l.length = n := ⟨_, rfl⟩
  rw [hmp] at ha hl hn ⊢
  have HM := Lib.hid hmp
  have HC := Lib.hid hc
  have ep := bs_toList path
  clear hmp hc
  go_enter Tryz.func84, Tryz.ntmps84
  go_wp2
  go_loopw [7] (fun i wr => ∃ (k : Nat), i = .int .i64 k ∧ k ≤ n ∧ (∀ j x, j < k → l[j]? = some x → ¬ x.path = path) ∧ wr = w)
    (fun i _ => n - (RowKit.intOf i).toNat)
  case atStart => exact ⟨0, rfl, Nat.zero_le _, fun j x h => by omega, rfl⟩
  case round =>
    obtain ⟨k, rfl, hk, h0, rfl⟩ := hrel
    have H0 := Lib.hid h0
    clear h0
    by_cases hlt : k < n
    · obtain ⟨m, hm⟩ : ∃ r, l[k]? = some r := ⟨_, List.getElem?_eq_getElem (by have := HM.out; omega)⟩
      have ha' := ha (by omega)
      subst ha'
      obtain ⟨vp, c0, c1, c2, c3, c4, _⟩ := HC.out k m hm
      obtain ⟨x, hx⟩ : ∃ x, m.path = x := ⟨_, rfl⟩
      rw [hx] at c1
      have ex := bs_toList x
      have HX := Lib.hid hx
      have HMk := Lib.hid hm
      have hkm : (k : Int) < mp := by omega
      clear hm hx c0 c2 c3 c4 ha
      by_cases he : x = path
      · have q : (x == path) = true := beq_iff_eq.2 he
        have HF : Hid (atI l n path = k) := Lib.hid (atI_found hlt H0.out HMk.out (HX.out.trans he))
        clear he
        go_wp2
        go_ret
        exact ⟨by rw [HF.out]; rfl, rfl⟩
      · have q : (x == path) = false := beq_eq_false_iff_ne.2 he
        have HNe := Lib.hid he
        clear he
        go_wp2
        go_roundw
        case rel =>
          refine ⟨k + 1, by go_num, by omega, fun j y hj hy => ?_, trivial⟩
          by_cases e : j = k
          · subst e
            rw [HMk.out] at hy
            cases hy
            rw [HX.out]; exact HNe.out
          · exact H0.out j y (by omega) hy
        case measure => simp [RowKit.intOf]; omega
    · obtain rfl : k = n := by omega
      have HF : Hid (atI l k path = -1) := Lib.hid (atI_none H0.out)
      clear ha
      go_wp2
      go_ret
      exact ⟨by rw [HF.out]; rfl, rfl⟩
end Go.Proofs.YtlecpjfggoehdaaGreatDoor.Ar
