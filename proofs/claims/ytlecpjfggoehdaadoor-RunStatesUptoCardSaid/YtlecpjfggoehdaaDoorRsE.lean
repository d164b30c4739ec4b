/- RunStates: the reference's numbers, kind, dents. -/
import Derived.Test.YtlecpjfggoehdaaDoorRsD
import Derived.Test.YtlecpjfggoehdaaDoorRsR
set_option linter.unusedVariables false
set_option linter.unusedSimpArgs false
namespace Go.Proofs.YtlecpjfggoehdaaDoor.Rs
open Go.RowKit Go.Sort Go.Lib

def oneB (x : Int) : List UInt8 := [32] ++ itoa x
def rnums (xs : List Int) : List UInt8 := (xs.map oneB).flatten
theorem oneB_le {x : Int} (h : I64 x) : (oneB x).length ≤ 22 := by
  have := itoa_le h
  simp only [oneB, List.length_append, List.length_cons, List.length_nil]; omega

set_option maxHeartbeats 1000000 in
set_option maxRecDepth 100000 in
theorem call_rnumbers (v : Value) (xs : List Int) (w : World) (hs : Sl RInt 1 w v xs) (hl : xs.length ≤ 1048576) (hp : Pow w) :
    Calls Tryd.prog 30 #[v] w fun e w' => e = .returned (.string (bs (rnums xs))) ∧ Below w.heap.size w w' := by
  obtain ⟨a, b, o, cap, rfl, ha, hc⟩ := hs
  obtain ⟨n, hn⟩ : ∃ n, xs.length = n := ⟨_, rfl⟩
  rw [hn] at ha hl ⊢
  have HN := Lib.hid hn
  have HP := Lib.hid hp
  have HC := Lib.hid hc
  clear hn hp hc
  go_enter Tryd.func30, Tryd.ntmps30
  go_wp2
  go_loopw [3, 4] (fun v3 i wr => ∃ (k : Nat) (s : List UInt8), v3 = .string (bs s) ∧ i = .int .i64 k ∧ k ≤ n ∧ Hid (s = ((xs.take k).map oneB).flatten) ∧ Below w.heap.size w wr)
    (fun _ i _ => n - (RowKit.intOf i).toNat)
  case atStart => exact ⟨0, [], rfl, rfl, Nat.zero_le _, rfl, Below.refl _ _⟩
  case round =>
    obtain ⟨k, s, rfl, rfl, hk, hs, hb⟩ := hrel
    by_cases hlt : k < n
    · obtain ⟨x, hx⟩ : ∃ x, xs[k]? = some x := ⟨_, List.getElem?_eq_getElem (by have := HN.out; omega)⟩
      obtain ⟨m0, ix⟩ := HC.out k x hx
      rw [Nat.mul_one] at m0
      have hcell : wr.cell? ⟨b, o + k, none⟩ = some (.int .i64 x) := keeps_below hb _ _ _ m0
      have ha' := ha (by omega)
      subst ha'
      have j0 := itoa_le ix
      have ls : s.length ≤ 30000000 := by
        rw [hs.out]
        have := flat_le (l := (xs.take k).map oneB) (m := 22) (fun y hy => by
          obtain ⟨z, hz, rfl⟩ := List.mem_map.1 hy
          obtain ⟨j, hj, rfl⟩ := List.getElem_of_mem (List.mem_of_mem_take hz)
          exact oneB_le (HC.out j _ (List.getElem?_eq_getElem hj)).2)
        have h6 : ((xs.take k).map oneB).length ≤ n := by simp; omega
        omega
      obtain ⟨sa17, ha17, la17, qa17⟩ := sumLB Tryd.prog ([32]) (itoa x) 22 (by (try simp only [List.length_cons, List.length_nil]); omega) (by omega)
      obtain ⟨sa18, ha18, la18, qa18⟩ := sumBB Tryd.prog (s) (sa17) 30000022 (by (try simp only [List.length_cons, List.length_nil]); omega) (by omega)
      obtain rfl : sa18 = s ++ oneB x := by unfold oneB; rw [ha18.out, ha17.out]
      have HX := Lib.hid hx
      have IX := Lib.hid ix
      clear hx ix ha m0
      go_wp2_with (go_at_call 32; refine (call_itoa _ IX.out.1 IX.out.2 _ (HP.out.below hb)).mono ?_; rintro e w1 ⟨rfl, hb1⟩)
      go_roundw
      case rel => exact ⟨k + 1, _, rfl, by go_num, by omega, by show _ = _; rw [hs.out, take_map_succ HX.out], below_then hb hb.size hb1⟩
      case measure => simp [RowKit.intOf]; omega
    · obtain rfl : k = n := by omega
      go_wp2
      go_ret
      exact ⟨by rw [hs.out, List.take_of_length_le (by have := HN.out; omega)]; rfl, hb⟩

set_option maxRecDepth 100000 in
theorem call_rkind (k : Int) (w : World) : Calls Tryd.prog 56 #[.int .i64 k] w fun e w' => e = .returned (.string (bs (kindB k))) ∧ Below w.heap.size w w' := by
  by_cases h1 : k = 1
  · subst h1
    go_enter Tryd.func56, Tryd.ntmps56
    go_wp2
    go_ret
    exact ⟨rfl, by repeat (first | exact Below.refl _ _ | apply Below.drew)⟩
  · by_cases h2 : k = 2
    · subst h2
      go_enter Tryd.func56, Tryd.ntmps56
      go_wp2
      go_ret
      exact ⟨rfl, by repeat (first | exact Below.refl _ _ | apply Below.drew)⟩
    · have b1 : ((k : Int) == 1) = false := by simp [h1]
      have b2 : ((k : Int) == 2) = false := by simp [h2]
      have e : kindB k = [102, 114, 101, 101] := by simp [kindB, h1, h2]
      rw [e]
      clear h1 h2 e
      go_enter Tryd.func56, Tryd.ntmps56
      go_wp2
      go_ret
      exact ⟨rfl, by repeat (first | exact Below.refl _ _ | apply Below.drew)⟩

abbrev Dr (w : World) (b o : Nat) (r : Dn) (w' : World) : Prop := w'.cell? ⟨b, o, none⟩ = some (.string (bs r.name)) ∧ w'.cell? ⟨b, o + 1, none⟩ = some (.int .i64 r.ino) ∧ Hid (Below w.heap.size w w')
theorem Dr.step {w w' w1 : World} {b o : Nat} {r : Dn} (h : Dr w b o r w') (hb : Below w'.heap.size w' w1) : Dr w b o r w1 :=
  ⟨keeps_below hb _ _ _ h.1, keeps_below hb _ _ _ h.2.1, Lib.hid (below_then h.2.2.out h.2.2.out.size hb)⟩
theorem Dr.drew {w w' : World} {b o : Nat} {r : Dn} (h : Dr w b o r w') : Dr w b o r w'.drew := ⟨h.1, h.2.1, Lib.hid h.2.2.out.drew⟩

set_option maxHeartbeats 2000000 in
set_option maxRecDepth 100000 in
theorem call_rdents (v : Value) (xs : List Dn) (w : World) (hs : Sl RDn 2 w v xs) (hl : xs.length ≤ 1048576) (hnm : ∀ d ∈ xs, d.name.length ≤ 1048576) (hp : Pow w) :
    Calls Tryd.prog 57 #[v] w fun e w' => e = .returned (.string (bs (xs.map dnB).flatten)) ∧ Below w.heap.size w w' := by
  obtain ⟨a, b, o, cap, rfl, ha, hc⟩ := hs
  obtain ⟨n, hn⟩ : ∃ n, xs.length = n := ⟨_, rfl⟩
  rw [hn] at ha hl ⊢
  have HN := Lib.hid hn
  have HP := Lib.hid hp
  have HC := Lib.hid hc
  have HM := Lib.hid hnm
  clear hn hp hc hnm
  go_enter Tryd.func57, Tryd.ntmps57
  go_wp2
  go_loopw [3, 4] (fun v3 i wr => ∃ (k : Nat) (s : List UInt8), v3 = .string (bs s) ∧ i = .int .i64 k ∧ k ≤ n ∧ Hid (s = ((xs.take k).map dnB).flatten) ∧ Below w.heap.size w wr)
    (fun _ i _ => n - (RowKit.intOf i).toNat)
  case atStart => exact ⟨0, [], rfl, rfl, Nat.zero_le _, rfl, Below.refl _ _⟩
  case round =>
    obtain ⟨k, s, rfl, rfl, hk, hs, hb⟩ := hrel
    by_cases hlt : k < n
    · obtain ⟨r, hx⟩ : ∃ x, xs[k]? = some x := ⟨_, List.getElem?_eq_getElem (by have := HN.out; omega)⟩
      obtain ⟨m0, m1, ix⟩ := HC.out k r hx
      have D0 : Dr w b (o + k * 2) r wr := ⟨keeps_below hb _ _ _ m0, keeps_below hb _ _ _ m1, Lib.hid hb⟩
      have ha' := ha (by omega)
      subst ha'
      have j0 := itoa_le ix
      have j1 := HM.out r (List.mem_of_getElem? hx)
      have j2 := quoteB_le r.name
      have ls : s.length ≤ 100000000000000 := by
        rw [hs.out]
        have := flat_le (l := (xs.take k).map dnB) (m := 5000000) (fun y hy => by
          obtain ⟨z, hz, rfl⟩ := List.mem_map.1 hy
          have hz' := List.mem_of_mem_take hz
          obtain ⟨j, hj, rfl⟩ := List.getElem_of_mem hz'
          exact dnB_le (HC.out j _ (List.getElem?_eq_getElem hj)).2.2 (HM.out _ hz'))
        have h6 : ((xs.take k).map dnB).length ≤ n := by simp; omega
        have h7 : 5000000 * ((xs.take k).map dnB).length ≤ 5000000 * 1048576 := Nat.mul_le_mul_left _ (by omega)
        omega
      obtain ⟨sb18, hb18, lb18, qb18⟩ := sumLB Tryd.prog ([32]) (quoteB r.name) 4194307 (by (try simp only [List.length_cons, List.length_nil]); omega) (by omega)
      obtain ⟨sb19, hb19, lb19, qb19⟩ := sumBL Tryd.prog (sb18) ([32]) 4194308 (by (try simp only [List.length_cons, List.length_nil]); omega) (by omega)
      obtain ⟨sb26, hb26, lb26, qb26⟩ := sumBB Tryd.prog (sb19) (itoa r.ino) 4194329 (by (try simp only [List.length_cons, List.length_nil]); omega) (by omega)
      obtain ⟨sb27, hb27, lb27, qb27⟩ := sumBB Tryd.prog (s) (sb26) 100000004194329 (by (try simp only [List.length_cons, List.length_nil]); omega) (by omega)
      obtain rfl : sb27 = s ++ dnB r := by unfold dnB; rw [hb27.out, hb26.out, hb19.out, hb18.out]
      have hi0 : (0 : Int) ≤ (k : Int) := by omega
      have hi1 : (k : Int) < (n : Int) := by omega
      have HX := Lib.hid hx
      have IX := Lib.hid ix
      have J1 := Lib.hid j1
      have D0 := Lib.hid D0
      clear hx ix ha m0 m1 j1 hb
      go_wp2_with fail
      go_region_held3 (fun w' => Dr w b (o + k * 2) r w')
        (first | exact Dr.drew D0.out | exact Dr.step ‹Dr w b _ r _› hb1)
        (first | (go_at_call 32; refine (call_itoa _ IX.out.1 IX.out.2 _ (HP.out.below (‹Dr w b _ r _›).2.2.out)).mono ?_; rintro e w1 ⟨rfl, hb1⟩) | (go_at_call 81; refine (call_rquote _ _ J1.out).mono ?_; rintro e w1 ⟨rfl, hb1⟩))
      have HD := Lib.hid (‹Dr w b _ r _›)
      go_wp2
      go_roundw
      case rel => exact ⟨k + 1, _, rfl, by go_num, by omega, by show _ = _; rw [hs.out, take_map_succ HX.out], HD.out.2.2.out⟩
      case measure => simp [RowKit.intOf]; omega
    · obtain rfl : k = n := by omega
      go_wp2
      go_ret
      exact ⟨by rw [hs.out, List.take_of_length_le (by have := HN.out; omega)]; rfl, hb⟩
end Go.Proofs.YtlecpjfggoehdaaDoor.Rs
