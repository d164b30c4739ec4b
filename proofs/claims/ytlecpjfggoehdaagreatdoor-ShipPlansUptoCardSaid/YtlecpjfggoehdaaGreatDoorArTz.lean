
/- Archive: the law ArchiveMakes, walked. -/
import Derived.Test.YtlecpjfggoehdaaGreatDoorArTy
import Derived.Test.YtlecpjfggoehdaaGreatDoorArY
set_option linter.unusedVariables false
set_option linter.unusedSimpArgs false
set_option maxRecDepth 100000
namespace Go.Proofs.YtlecpjfggoehdaaGreatDoor.Ar
open Go.RowKit Go.Sort Go.Lib Go.Proofs.YtlecpjfggoehdaaGreatDoor.Rs

theorem TwinS.mb {w0 wr : World} {base : Nat} {v : Value} {l : List Mb} {L : List MV} (h : TwinS w0 base wr v l l.length L) : Sl RMb 5 wr v l := by
  have hl : L.length = l.length := by rw [← h.fst, List.length_map]
  have := h.row.sl (fun x hx => by
    obtain ⟨j, hj⟩ := List.getElem?_of_mem hx
    have hm : x.1 ∈ l := by rw [← h.fst]; exact List.mem_map_of_mem hx
    have hn := h.num x.1 hm
    exact ⟨(h.own j x (by have := (List.getElem?_eq_some_iff.1 hj).1; omega) hj).1.sl hn.2.2, hn.1, hn.2.1⟩)
  rw [h.fst] at this
  exact this
theorem LsSm.short {l : List Mb} (h : LsSm l) : LsSm' l := ⟨h.len, fun m hm => (h.mb m hm).pieces⟩
theorem own_bytes {base : Nat} {w : World} {v : Value} {l : List UInt8} (h : Own base w v l) : Sl RByte 1 w v l := by
  by_cases h0 : 0 < l.length
  · exact (bytes_own h h0).2.1
  · have e := List.eq_nil_of_length_eq_zero (by omega : l.length = 0)
    subst e
    rcases h.2 with ⟨rfl, _⟩ | ⟨g, cap, cur, rfl, _⟩
    · exact ⟨none, 0, 0, 0, rfl, fun h => by simp at h, fun j x hj => by simp at hj⟩
    · exact ⟨_, g, 0, cap, rfl, fun h => by simp at h, fun j x hj => by simp at hj⟩
theorem nil_bytes (w : World) : Sl RByte 1 w (.slice none 0 0) [] := ⟨none, 0, 0, 0, rfl, fun h => by simp at h, fun j x hj => by simp at hj⟩
theorem makeB_len_le {l : List Mb} (h : goodB l = true) (hl : LsSm l) : (makeB l).length ≤ 100000000000000 := by
  have h1 := makeB_le h hl l.length
  rw [List.take_of_length_le (Nat.le_refl _)] at h1
  rw [makeB, List.length_append, closeB_len _ (lineB_len _)]
  omega
theorem Sl.take {α : Type} {R : World → Nat → Nat → α → Prop} {sz : Nat} {w : World} {a : Option Addr} {n c : Nat} {xs : List α} (h : Sl R sz w (.slice a n c) xs) {k : Nat} (hk : k ≤ n) (c' : Nat) : Sl R sz w (.slice a k c') (xs.take k) := by
  obtain ⟨a', b, o, cap, e, ha, hc⟩ := h
  cases e
  have hl : (xs.take k).length = k := by rw [List.length_take]; omega
  exact ⟨a, b, o, c', by rw [hl], fun h0 => ha (by omega), fun j x hj => by
    rw [List.getElem?_take] at hj
    split at hj
    · exact hc j x hj
    · cases hj⟩

/-- what the law's list is -/
structure ArgL (w : World) (v : Value) (l : List Mb) : Prop where
  sl : Sl RMbN 5 w v l
  nil : NilOk v
  cap : ∀ a n c, v = .slice a n c → n ≤ c
  sm : LsSm l
theorem ArgL.keep {w w' : World} {v : Value} {l : List Mb} (h : ArgL w v l) (hk : Keeps w w') : ArgL w' v l := ⟨h.sl.keep RMbN.stays hk, h.nil, h.cap, h.sm⟩

end Go.Proofs.YtlecpjfggoehdaaGreatDoor.Ar
