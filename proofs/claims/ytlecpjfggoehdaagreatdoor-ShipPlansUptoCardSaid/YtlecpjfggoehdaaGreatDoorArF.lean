
/- Archive: the reference's lines. -/
import Derived.Test.YtlecpjfggoehdaaGreatDoorArE
set_option linter.unusedVariables false
set_option linter.unusedSimpArgs false
set_option maxRecDepth 100000
namespace Go.Proofs.YtlecpjfggoehdaaGreatDoor.Ar
open Go.RowKit Go.Sort Go.Lib

theorem own_mono {w : World} {base base' : Nat} {e : TypeId} {size n : Nat} {v : Value} {xs : List Value} (h : w.ownsRow base e size v n xs) (hb : base' ≤ base) : w.ownsRow base' e size v n xs := by
  refine ⟨h.1, ?_⟩
  rcases h.2 with h | ⟨g, cap, cur, h1, h2, h3⟩
  · exact .inl h
  · exact .inr ⟨g, cap, cur, h1, Nat.le_trans hb h2, h3⟩
theorem one_src {w : World} {B : Nat} {x : UInt8} (h : w.cell? ⟨B, 0, none⟩ = [Value.int .u8 x.toNat][0]?) : ∀ j b, [x][j]? = some b → w.cell? ⟨B, 0 + j, none⟩ = some (byteV b) := fun j b hj => by
  match j with
  | 0 => cases hj; exact h
  | j + 1 => simp at hj
theorem map_take_succ {α β : Type} {f : α → β} {l : List α} {k : Nat} {x : α} (h : l[k]? = some x) : (l.take (k + 1)).map f = List.take k (l.map f) ++ [f x] := by
  rw [List.take_add_one, h]; simp [List.map_take]
/-- one byte behind a row: the block of the literal, then the row -/
theorem below_app1 {N : Nat} {w w0 w' : World} {o : Obj} (h : Below N w w0) (hN : N ≤ w0.heap.size) (k : Below N (w0.alloc o) w') : Below N w w' := (h.alloc hN o).trans k

set_option maxHeartbeats 1000000 in
theorem call_rbody (l : List UInt8) (hl : l.length = 64) (w : World) :
    Calls Tryz.prog 70 #[.agg (l.map byteV).toArray] w fun e w' => ∃ v, e = .returned v ∧ w'.ownsRow w.heap.size 5 1 v 60 ((l.take 60).map byteV) ∧ Below w.heap.size w w' := by
  have R0 := Lib.hid (Row.new w 53 (l.map byteV))
  have HL := Lib.hid hl
  have HB := Lib.hid (below_alloc1 w (.cells (l.map byteV).toArray 53))
  clear hl
  go_enter Tryz.func70, Tryz.ntmps70
  go_wp2
  go_loopw [3, 4] (fun v i wr => ∃ (k : Nat), i = .int .i64 k ∧ k ≤ 60 ∧ wr.ownsRow (w.heap.size + 1) 5 1 v k ((l.take k).map byteV) ∧ Row wr w.heap.size 53 (l.map byteV) ∧ Below w.heap.size w wr ∧ w.heap.size + 1 ≤ wr.heap.size)
    (fun _ i _ => 60 - (RowKit.intOf i).toNat)
  case atStart => exact ⟨0, rfl, Nat.zero_le _, World.ownsRow_nil _ _ _ _, R0.out, HB.out, by rw [alloc_size]; omega⟩
  case round =>
    obtain ⟨k, rfl, hk, ho, hr, hb, hsz⟩ := hrel
    have HO := Lib.hid ho
    have HR := Lib.hid hr
    by_cases hlt : k < 60
    · obtain ⟨x, hx⟩ : ∃ x, l[k]? = some x := ⟨_, List.getElem?_eq_getElem (by have := HL.out; omega)⟩
      have hcw : wr.cell? ⟨w.heap.size, k, none⟩ = some (.int .u8 x.toNat) := by rw [hr.cell, List.getElem?_map, hx]; rfl
      have HX := Lib.hid hx
      have HC1 := Lib.hid ((Row.new wr 5 [.int .u8 x.toNat]).cell 0)
      have HO1 := Lib.hid (ho.alloc (.cells #[.int .u8 x.toNat] 5))
      clear hx ho hr
      go_wp2_with (refine wpl_app HO1.out rfl _ _ rfl rfl wr.heap.size 0 1 1 rfl [x] rfl ?c1 ?c2 ?c3 ?c4)
      case c1 => exact one_src HC1.out
      case c2 => rw [alloc_size]; omega
      case c3 => omega
      intro v' w' h1 h2
      have H1 := Lib.hid h1
      have H2 := Lib.hid h2
      clear h1 h2
      go_wp2
      go_roundw
      case rel =>
        have h3 := H2.out.size
        rw [alloc_size] at h3
        refine ⟨k + 1, by go_num, by omega, ?_, (HR.out.alloc _).below H2.out (Nat.lt_succ_self _), below_app1 hb (by omega) (H2.out.mono (Nat.le_succ _)), by omega⟩
        rw [map_take_succ HX.out]
        exact H1.out
      case measure => simp [RowKit.intOf]; omega
    · obtain rfl : k = 60 := by omega
      clear ho hr
      go_wp2
      go_ret
      exact ⟨_, rfl, own_mono HO.out (Nat.le_succ _), hb⟩

set_option maxHeartbeats 1000000 in
theorem call_rlay4 (base n : Nat) (v : Value) (xs : List Value) (x : Int) (h0 : 0 ≤ x) (h1 : x < 18446744073709551616) (w : World) (ho : w.ownsRow base 5 1 v n xs) (hbase : base ≤ w.heap.size) (hn : n ≤ 100000000000000) :
    Calls Tryz.prog 72 #[v, .int .u64 x, .int .i64 4] w fun e w' => ∃ v', e = .returned v' ∧ w'.ownsRow base 5 1 v' (n + 4) (xs ++ (halfB x).map byteV) ∧ Below base w w' := by
  have HO := Lib.hid ho
  clear ho
  go_enter Tryz.func72, Tryz.ntmps72
  go_wp2
  go_loopw [0, 1, 7] (fun v z i wr => ∃ (k : Nat) (q : Int), i = .int .i64 k ∧ k ≤ 4 ∧ z = .int .u64 q ∧ q = x / 2 ^ (8 * k) ∧ wr.ownsRow base 5 1 v (n + k) (xs ++ ((halfB x).take k).map byteV) ∧ Below base w wr)
    (fun _ _ i _ => 4 - (RowKit.intOf i).toNat)
  case atStart => exact ⟨0, x, rfl, Nat.zero_le _, rfl, by simp, by simpa using HO.out, Below.refl _ _⟩
  case round =>
    obtain ⟨k, q, rfl, hk, rfl, hq, ho, hb⟩ := hrel
    have HO := Lib.hid ho
    have HQ := Lib.hid hq
    have q0 : 0 ≤ q := by rw [hq]; exact Int.ediv_nonneg h0 (Int.pow_nonneg (by omega))
    have q1 : q < 18446744073709551616 := by rw [hq]; exact Int.lt_of_le_of_lt (Int.ediv_le_self _ h0) h1
    by_cases hlt : k < 4
    · have hsz := hb.size
      have HC1 := Lib.hid ((Row.new wr 5 [.int .u8 (q % 256)]).cell 0)
      have HO1 := Lib.hid (ho.alloc (.cells #[.int .u8 (q % 256)] 5))
      clear ho hq
      have hk4 : (halfB x)[k]? = some (byteAt x k) := by
        match k, hlt with
        | 0, _ | 1, _ | 2, _ | 3, _ => rfl
      have HK := Lib.hid hk4
      have HV : Hid (Value.int .u8 (q % 256) = byteV (byteAt x k)) := Lib.hid (by rw [u8_byteAt, HQ.out])
      clear hk4
      go_wp2_with (refine wpl_app HO1.out rfl _ _ rfl rfl wr.heap.size 0 1 1 rfl [byteAt x k] rfl ?c1 ?c2 ?c3 ?c4)
      case c1 =>
        intro j b hj
        match j with
        | 0 => cases hj; rw [← HV.out]; exact HC1.out
        | j + 1 => simp at hj
      case c2 => rw [alloc_size]; omega
      case c3 => omega
      intro v' w' h1 h2
      have H1 := Lib.hid h1
      have H2 := Lib.hid h2
      clear h1 h2
      go_wp2
      go_roundw
      case rel =>
        refine ⟨k + 1, _, by go_num, by omega, rfl, ?_, ?_, below_app1 hb (by omega) H2.out⟩
        · rw [HQ.out, Int.ediv_ediv_of_nonneg (Int.pow_nonneg (by omega))]
          rw [show 8 * (k + 1) = 8 * k + 8 by omega, Int.pow_add]
          rfl
        · rw [map_take_succ HK.out, ← List.append_assoc]
          simpa [List.map_take, Nat.add_assoc] using H1.out
      case measure => simp [RowKit.intOf]; omega
    · obtain rfl : k = 4 := by omega
      clear ho hq
      go_wp2
      go_ret
      exact ⟨_, rfl, HO.out, hb⟩

theorem call_rhalf (x : Int) (w : World) :
    Calls Tryz.prog 48 #[.int .i64 x] w fun e w' => e = .returned (.slice (some ⟨w.heap.size, 0, none⟩) 4 4) ∧ Row w' w.heap.size 5 ((halfB x).map byteV) ∧ Below w.heap.size w w' := by
  go_enter Tryz.func48, Tryz.ntmps48
  go_wp2
  go_ret
  refine ⟨rfl, ?_, below_alloc1 _ _⟩
  have e : (halfB x).map byteV = [.int .u8 (x % 256), .int .u8 (x / 256 % 256), .int .u8 (x / 65536 % 256), .int .u8 (x / 16777216 % 256)] := by
    simp only [halfB, List.map_cons, List.map_nil, u8_byteAt]
    simp
  rw [e]
  exact Row.new w 5 _

theorem bytes_own {w : World} {base n : Nat} {v : Value} {l : List UInt8} (h : w.ownsRow base 5 1 v n (l.map byteV)) (hn : 0 < n) : l.length = n ∧ Sl RByte 1 w v l ∧ ∃ g c, v = .slice (some ⟨g, 0, none⟩) n c ∧ base ≤ g ∧ ∀ j b, l[j]? = some b → w.cell? ⟨g, j, none⟩ = some (byteV b) := by
  obtain ⟨g, c, rfl, hg, hc, hcell⟩ := own_cells h hn
  have hl : l.length = n := by have := h.1; simpa using this
  have hcell' : ∀ j b, l[j]? = some b → w.cell? ⟨g, j, none⟩ = some (byteV b) := fun j b hj => hcell j _ (by rw [List.getElem?_map, hj]; rfl)
  refine ⟨hl, ⟨_, g, 0, c, by rw [hl], fun _ => rfl, fun j b hj => ?_⟩, g, c, rfl, hg, hcell'⟩
  show w.cell? _ = _
  rw [Nat.zero_add, Nat.mul_one]
  exact hcell' j b hj

set_option maxHeartbeats 1000000 in
theorem call_rclose (l : List UInt8) (hl : l.length = 64) (w : World) :
    Calls Tryz.prog 49 #[.agg (l.map byteV).toArray] w fun e w' => e = .returned (.agg ((closeB l).map byteV).toArray) ∧ Below w.heap.size w w' := by
  obtain ⟨s, hs⟩ : ∃ s, sumOnB 0 (l.take 60) = s := ⟨_, rfl⟩
  have s0 : 0 ≤ s := by rw [← hs, sumOnB, bits_xor]; exact bI_lo _
  have s1 : s < 4294967296 := by rw [← hs, sumOnB, bits_xor]; exact bI_hi _
  have HS := Lib.hid hs
  have HL := Lib.hid hl
  have R0 := Lib.hid ((Row.new w 53 (l.map byteV)).alloc (.cells (List.replicate 64 (.int .u8 0)).toArray 53))
  have R1 := Lib.hid (row_new1 w (.cells (l.map byteV).toArray 53) 53 (List.replicate 64 (.int .u8 0)))
  have HB := Lib.hid (below_alloc2 w (.cells (l.map byteV).toArray 53) (.cells (List.replicate 64 (.int .u8 0)).toArray 53))
  have e60 : (l.take 60).length = 60 := by rw [List.length_take, hl]; rfl
  have HE := Lib.hid e60
  clear hs hl e60
  go_enter Tryz.func49, Tryz.ntmps49
  go_wp2_with (first
    | refine wpl_load R0.out rfl 53 _ rfl rfl _ 64 (by simpa using HL.out) Tryz.underlying53 rfl (by kernel_rfl) ?_
    | (go_at_call 70; refine (call_rbody l HL.out _).mono ?_; rintro e w1 ⟨v1, rfl, ho1, hb1⟩
       have Q0 := Lib.hid (R0.out.below hb1 R0.out.lt); have Q1 := Lib.hid (R1.out.below hb1 R1.out.lt); have QB := Lib.hid (HB.out.trans (hb1.mono HB.out.size))
       have HO := Lib.hid (own_mono ho1 (show w.heap.size + 2 ≤ _ by rw [alloc_size, alloc_size]; exact Nat.le_refl _))
       have HSZ := Lib.hid (show w.heap.size + 2 ≤ w1.heap.size by have := hb1.size; rw [alloc_size, alloc_size] at this; exact this)
       clear hb1 ho1 R0 R1 HB)
    | (go_at_call 71; refine (call_rsum _ _ _ (bytes_own HO.out (by omega)).2.1 (by rw [HE.out]; omega)).mono ?_; rintro e w1 ⟨rfl, rfl⟩; rw [HS.out])
    | (go_at_call 72; refine (call_rlay4 _ _ _ _ s s0 (by omega) _ HO.out HSZ.out (by omega)).mono ?_; rintro e w2 ⟨v2, rfl, ho2, hb2⟩
       have P0 := Lib.hid (Q0.out.below hb2 (by omega)); have P1 := Lib.hid (Q1.out.below hb2 (by omega)); have PB := Lib.hid (QB.out.trans (hb2.mono (by omega)))
       have PS := Lib.hid (Nat.le_trans HSZ.out hb2.size)
       have HC : Hid (closeB l = l.take 60 ++ halfB s) := Lib.hid (by rw [closeB, HS.out])
       rw [← List.map_append, ← HC.out] at ho2
       have HO2 := Lib.hid ho2
       clear hb2 ho2 HO Q0 Q1 QB))
  obtain ⟨hcl, _, g, c, rfl, hg, hcells⟩ := bytes_own HO2.out (by omega)
  have hglt : g < w2.heap.size := (HO2.out.lt g rfl).2
  have HCL := Lib.hid hcl
  have HCE := Lib.hid hcells
  have R2 := Lib.hid (Row.new w2 53 (List.replicate 64 (.int .u8 0)))
  clear hcl hcells HO2
  go_loopw [6] (fun i wr => ∃ (k : Nat) (cur : List Value), i = .int .i64 k ∧ k ≤ 64 ∧ Row wr w2.heap.size 53 cur ∧ cur.length = 64 ∧ (∀ j, j < k → cur[j]? = ((closeB l).map byteV)[j]?) ∧ Below w2.heap.size w2 wr)
    (fun i _ => 64 - (RowKit.intOf i).toNat)
  case atStart => exact ⟨0, _, rfl, Nat.zero_le _, R2.out, List.length_replicate .., fun j h => by omega, below_alloc1 _ _⟩
  case round =>
    obtain ⟨k, cur, rfl, hk, hr, hl, hd, hb⟩ := hrel
    have HR := Lib.hid hr
    have HD := Lib.hid hd
    have HCu := Lib.hid hl
    clear R2
    by_cases hlt : k < 64
    · obtain ⟨b, hbk⟩ : ∃ b, (closeB l)[k]? = some b := ⟨_, List.getElem?_eq_getElem (by have := HCL.out; omega)⟩
      have hcw : wr.cell? ⟨g, k, none⟩ = some (.int .u8 b.toNat) := (hb.cell (p := ⟨g, k, none⟩) hglt).trans (HCE.out k b hbk)
      have HBK := Lib.hid hbk
      obtain ⟨v0, hcur⟩ : ∃ v, wr.cell? ⟨w2.heap.size, k, none⟩ = some v := ⟨cur[k]'(by omega), by rw [hr.cell]; simp⟩
      have hf := hr.free k
      clear hr hl hd hbk
      go_wp2_with fail
      go_roundw
      case rel =>
        refine ⟨k + 1, _, by go_num, by omega, HR.out.set k _, by simp [HCu.out], fun j hj => ?_, hb.setCell (Nat.le_refl _) _⟩
        by_cases e : j = k
        · subst e; rw [List.getElem?_set_self (by have := HCu.out; omega), List.getElem?_map, HBK.out]; rfl
        · rw [List.getElem?_set_ne (by omega)]; exact HD.out j (by omega)
      case measure => simp [RowKit.intOf]; omega
    · obtain rfl : k = 64 := by omega
      have hcur : cur = (closeB l).map byteV := by
        apply List.ext_getElem?
        intro j
        by_cases h : j < 64
        · exact hd j h
        · rw [List.getElem?_eq_none (by omega), List.getElem?_eq_none (by have := HCL.out; simp; omega)]
      subst hcur
      have Z1 := Lib.hid (P1.out.below hb (by have := PS.out; omega))
      have ZB := Lib.hid (PB.out.trans (hb.mono (by have := PS.out; omega)))
      clear hr hd hl
      go_wp2_with (first | refine wpl_load HR.out rfl 53 _ rfl rfl _ 64 HCu.out Tryz.underlying53 rfl (by kernel_rfl) ?_ | refine wpl_store Z1.out rfl 53 _ _ rfl ((closeB l).map byteV) rfl rfl 64 (List.length_replicate ..) HCu.out (one_bytes _) (by kernel_rfl) ?_)
      exact bodyPost_agg (Z1.out.setRow _) 2 53 rfl _ rfl HCu.out Tryz.underlying53 rfl (by kernel_rfl) rfl ⟨rfl, below_setRow ZB.out (Nat.le_succ _) _⟩
end Go.Proofs.YtlecpjfggoehdaaGreatDoor.Ar
