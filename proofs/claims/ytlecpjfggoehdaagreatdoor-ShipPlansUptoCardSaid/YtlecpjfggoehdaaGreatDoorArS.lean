
/- Archive: Make, the reference's. -/
import Derived.Test.YtlecpjfggoehdaaGreatDoorArR
set_option linter.unusedVariables false
set_option linter.unusedSimpArgs false
set_option maxRecDepth 100000
namespace Go.Proofs.YtlecpjfggoehdaaGreatDoor.Ar
open Go.RowKit Go.Sort Go.Lib Go.Proofs.YtlecpjfggoehdaaGreatDoor.Rs

def magicB : List UInt8 := [70, 85, 82, 82, 79, 87, 65, 82]
/-- the first line, its sum not laid yet -/
def lineB (n : Int) : List UInt8 := magicB ++ halfB n ++ List.replicate 52 0
def makeB (l : List Mb) : List UInt8 := closeB (lineB l.length) ++ (l.map memberB).flatten
theorem lineB_len (n : Int) : (lineB n).length = 64 := rfl
theorem closeB_len (l : List UInt8) (h : l.length = 64) : (closeB l).length = 64 := by
  rw [closeB, List.length_append, List.length_take, h]; rfl

theorem memberB_le {m : Mb} (h : MbSm m) (hd : ∀ p ∈ m.pieces, p.data.length ≤ 512) : (memberB m).length ≤ 600000000 := by
  have h1 := h.path; have h2 := h.link; have h3 := h.pieces
  have e2 : (((numsOf m).map halfB).flatten).length = 20 := rfl
  have := flat_le (l := m.pieces.map pieceB) (m := 520) (fun x hx => by
    obtain ⟨y, hy, rfl⟩ := List.mem_map.1 hx
    have := hd y hy
    rw [pieceB, List.length_append, List.length_append]
    show 4 + 4 + _ ≤ _
    omega)
  rw [List.length_map] at this
  have h7 := Nat.mul_le_mul_left 520 h3
  rw [memberB, List.length_append, innerB, List.length_append, frontB, List.length_append, List.length_append, e2]
  show _ + 4 ≤ _
  omega
theorem piecesOk_data {size : Int} : ∀ {l : List Pc} {nx : Int}, piecesOk size nx l = true → ∀ p ∈ l, p.data.length ≤ 512
  | [], _, _, p, hp => by cases hp
  | q :: l, nx, h, p, hp => by
    rw [piecesOk_cons, Bool.and_eq_true] at h
    rcases List.mem_cons.1 hp with rfl | hp
    · have h1 := h.1
      simp only [pcOk, Bool.and_eq_true, decide_eq_true_eq] at h1
      have := h1.1.2
      omega
    · exact piecesOk_data h.2 p hp
theorem good_step {l : List Mb} (h : goodB l = true) {i : Nat} {m : Mb} (hi : l[i]? = some m) : stepOk l i m = true := by
  cases hs : stepOk l i m with
  | true => rfl
  | false => rw [goodB_false hi hs] at h; cases h
theorem good_data {l : List Mb} (h : goodB l = true) {m : Mb} (hm : m ∈ l) : ∀ p ∈ m.pieces, p.data.length ≤ 512 := by
  obtain ⟨i, hi, rfl⟩ := List.getElem_of_mem hm
  have hs := good_step h (List.getElem?_eq_getElem hi)
  generalize l[i] = m at *
  rw [stepOk, Bool.and_eq_true, fitsB] at hs
  have hf := hs.1
  split at hf
  · cases hf
  · have hk : kindOk l i m = true := (Bool.and_eq_true _ _ ▸ hf).2
    unfold kindOk at hk
    intro p hp
    split at hk
    · have : m.pieces.isEmpty = true := (Bool.and_eq_true _ _ ▸ hk).2
      rw [List.isEmpty_iff.1 this] at hp; cases hp
    · split at hk
      · have h2 : piecesB m.size m.pieces = true := (Bool.and_eq_true _ _ ▸ hk).2
        have h3 : piecesOk m.size 0 m.pieces = true := (Bool.and_eq_true _ _ ▸ h2).2
        exact piecesOk_data h3 p hp
      · split at hk
        · have : m.pieces.isEmpty = true := (Bool.and_eq_true _ _ ▸ hk).2
          rw [List.isEmpty_iff.1 this] at hp; cases hp
        · cases hk
theorem good_len {l : List Mb} (h : goodB l = true) : l.length ≤ 8192 := by
  rw [goodB, Bool.and_eq_true] at h
  exact of_decide_eq_true h.1
theorem makeB_le {l : List Mb} (h : goodB l = true) (hl : LsSm l) (k : Nat) : ((l.take k).map memberB).flatten.length ≤ 5000000000000 := by
  have h1 := flat_le (l := (l.take k).map memberB) (m := 600000000) (fun x hx => by
    obtain ⟨y, hy, rfl⟩ := List.mem_map.1 hx
    have hy' := List.mem_of_mem_take hy
    exact memberB_le (hl.mb y hy') (good_data h hy'))
  have h2 := good_len h
  have h3 : ((l.take k).map memberB).length ≤ 8192 := by simp; omega
  have := Nat.mul_le_mul_left 600000000 h3
  omega

theorem set_fill {α : Type} {L : List α} {k n : Nat} {c z : α} (hc : L[k]? = some c) (hk : k < n) : (L.take k ++ List.replicate (n - k) z).set k c = L.take (k + 1) ++ List.replicate (n - (k + 1)) z := by
  have hl := (List.getElem?_eq_some_iff.1 hc).1
  have h1 : (L.take k).length = k := by rw [List.length_take]; omega
  rw [List.set_append_right _ _ (by omega), h1, Nat.sub_self, show n - k = (n - (k + 1)) + 1 by omega, List.replicate_succ, List.set_cons_zero, List.take_add_one, hc]
  simp
theorem row_ne {w : World} {B B' T T' : Nat} {x y : List Value} (h : Row w B T x) (h' : Row w B' T' y) (hne : T ≠ T') : B ≠ B' := fun e => by
  subst e
  have h1 : w.heap[B]? = some (.cells x.toArray T (0, 0)) := h
  have h2 : w.heap[B]? = some (.cells y.toArray T' (0, 0)) := h'
  rw [h1] at h2
  injection h2 with h2
  injection h2 with _ h3
  exact hne h3
/-- a whole array stored into a block that is known whole; the world behind it is a letter -/
theorem wpl_storeA {P : Program} {ops : Array Oper} {rest : List Oper} {o : Oper} {a : Act} {Q : Exit → Act → World → Prop} {w : World} {B T : Nat} {cur : List Value} (hR : Row w B T cur) (hgd : o.guard = none) (ty : TypeId) (x y : Operand) (ho : o.op = .store ty x y) (cs : List Value) (hx : a.eval x = .pointer (some ⟨B, 0, none⟩)) (hy : a.eval y = .agg cs.toArray) (n : Nat) (hn : cur.length = n)
    (hm : cs.length = n) (h1 : ∀ v ∈ cs, v.oneCell' = true) (hi : (P.info? ty).map (·.size) = some n)
    (h : ∀ w2, Row w2 B T cs → (∀ N w0, Below N w0 w → N ≤ B → Below N w0 w2) → B < w2.heap.size → wpList P ops Q rest (a.put o.dst undef) w2) : wpList P ops Q (o :: rest) a w :=
  wpl_store hR hgd ty x y ho cs hx hy n hn hm h1 hi (h _ (hR.setRow cs) (fun N w0 hb hN => below_setRow hb hN _) (hR.setRow cs).lt)

set_option maxHeartbeats 8000000 in
theorem call_rmake (l : List Mb) (v : Value) (w : World) (hs : Sl RMb 5 w v l) (hl : LsSm l) :
    Calls Tryz.prog 27 #[v] w fun e w' => (if goodB l = true then ∃ v', e = .returned (.tuple #[v', .int .i64 0]) ∧ Own w.heap.size w' v' (makeB l) else e = .returned (.tuple #[.slice none 0 0, .int .i64 211])) ∧ Below w.heap.size w w' := by
  have HSl := Lib.hid hs
  obtain ⟨al, bl, ol, cl, rfl, ha, hc⟩ := hs
  obtain ⟨mp, hmp⟩ : ∃ n, l.length = n := ⟨_, rfl⟩
  have hlen := hl.len
  rw [hmp] at ha HSl hlen ⊢
  have HM := Lib.hid hmp
  have HC := Lib.hid hc
  have HL := Lib.hid hl
  clear hc hl
  cases hg : goodB l with
  | false =>
    simp only [Bool.false_eq_true, if_false]
    have HG := Lib.hid hg
    clear hg hmp
    go_enter Tryz.func27, Tryz.ntmps27
    go_wp2_with (go_at_call 47; refine (call_good l _ _ HSl.out HL.out).mono ?_; rintro e w1 ⟨rfl, hb1⟩; rw [HG.out])
    go_ret2
    exact ⟨rfl, hb1⟩
  | true =>
    simp only [if_true]
    have HG := Lib.hid hg
    clear hg hmp
    go_enter Tryz.func27, Tryz.ntmps27
    obtain ⟨zs, hzs⟩ : ∃ zs : List Value, zs = List.replicate 64 (.int .u8 0) := ⟨_, rfl⟩
    have HZ := Lib.hid hzs
    clear hzs
    go_wp2_with (first
      | (go_at_call 47; refine (call_good l _ _ HSl.out HL.out).mono ?_; rintro e w1 ⟨rfl, hb1⟩; rw [HG.out]; have HB1 := Lib.hid hb1; clear hb1)
      | (refine wpl_storeA (Row.new w1 53 (List.replicate 64 (.int .u8 0))) rfl 53 _ _ rfl (List.replicate 64 (.int .u8 0)) rfl rfl 64 (List.length_replicate ..) (List.length_replicate ..) (by intro v hv; rw [List.eq_of_mem_replicate hv]; rfl) (by kernel_rfl) ?_
         intro w2 hr2 hk2 hs2
         have HR := Lib.hid hr2
         have HB2 := Lib.hid (hk2 _ _ (HB1.out.alloc HB1.out.size _) HB1.out.size)
         have HSz := Lib.hid hs2
         clear hr2 hk2 hs2))
    have hB : w.heap.size ≤ w1.heap.size := HB1.out.size
    generalize w1.heap.size = B at *
    go_loopw [5] (fun i wr => ∃ (k : Nat) (cur : List UInt8), i = .int .i64 k ∧ k ≤ 8 ∧ Row wr B 53 (cur.map byteV) ∧ cur = (lineB mp).take k ++ List.replicate (64 - k) 0 ∧ Below w.heap.size w wr)
      (fun i _ => 8 - (RowKit.intOf i).toNat)
    case atStart => exact ⟨0, _, rfl, Nat.zero_le _, by have h := HR.out; simpa [byteV] using h, rfl, HB2.out⟩
    case round =>
      obtain ⟨k, cur, rfl, hk, hr, hcur, hb⟩ := hrel
      clear HR HB2
      have HR := Lib.hid hr
      have HB := Lib.hid hb
      have HCu := Lib.hid hcur
      clear hcur hb
      by_cases hlt : k < 8
      · obtain ⟨c, hc⟩ : ∃ c, magicB[k]? = some c := ⟨_, List.getElem?_eq_getElem (by show k < 8; exact hlt)⟩
        have hg : ∀ h : k < (⟨#[70, 85, 82, 82, 79, 87, 65, 82]⟩ : ByteArray).size, (⟨#[70, 85, 82, 82, 79, 87, 65, 82]⟩ : ByteArray)[k]'h = c := bs_get hc
        have hcl : cur.length = 64 := by rw [HCu.out, List.length_append, List.length_take, List.length_replicate, lineB_len]; omega
        have HLk : Hid ((lineB mp)[k]? = some c) := Lib.hid (by rw [lineB, List.append_assoc, List.getElem?_append_left (by show k < 8; exact hlt)]; exact hc)
        obtain ⟨v0, hv0⟩ : ∃ v, wr.cell? ⟨B, k, none⟩ = some v := ⟨byteV (cur[k]'(by omega)), by rw [hr.cell, List.getElem?_map, List.getElem?_eq_getElem (by omega)]; rfl⟩
        have hf := hr.free k
        clear hr hc hcl
        go_wp2_with fail
        go_roundw
        case rel =>
          refine ⟨k + 1, cur.set k c, by go_num, by omega, ?_, by rw [HCu.out, set_fill HLk.out (by omega)], HB.out.setCell hB _⟩
          have h := HR.out.set k (byteV c)
          rwa [← List.map_set] at h
        case measure => simp [RowKit.intOf]; omega
      · obtain rfl : k = 8 := by omega
        clear hr
        go_wp2_with (go_at_call 48; refine (call_rhalfB _ _).mono ?_; rintro e w3 ⟨B1, rfl, hr3, hb3⟩; have HN := Lib.hid hr3; have HR3 := Lib.hid (HR.out.below hb3 HR.out.lt); have HB3 := Lib.hid (below_then HB.out HB.out.size hb3); have HNE : Hid (B1 < w3.heap.size) := Lib.hid hr3.lt; clear hr3 hb3)
        have hne : B ≠ B1 := row_ne HR3.out HN.out (by decide)
        clear HR HB
        go_loopw [7] (fun i wr => ∃ (k : Nat) (cur : List UInt8), i = .int .i64 k ∧ k ≤ 4 ∧ Row wr B 53 (cur.map byteV) ∧ cur = (lineB mp).take (8 + k) ++ List.replicate (64 - (8 + k)) 0 ∧ Row wr B1 5 ((halfB mp).map byteV) ∧ Below w.heap.size w wr)
          (fun i _ => 4 - (RowKit.intOf i).toNat)
        case atStart => exact ⟨0, _, rfl, Nat.zero_le _, HR3.out, HCu.out, HN.out, HB3.out⟩
        case round =>
          obtain ⟨k, cur, rfl, hk, hr, hcur, hn, hb⟩ := hrel
          clear HR3 HB3 HN
          have HR := Lib.hid hr
          have HB := Lib.hid hb
          have HCu := Lib.hid hcur
          have HN := Lib.hid hn
          clear hcur hb
          by_cases hlt : k < 4
          · obtain ⟨c, hc⟩ : ∃ c, (halfB mp)[k]? = some c := ⟨_, List.getElem?_eq_getElem (by show k < 4; exact hlt)⟩
            have hcw : wr.cell? ⟨B1, k, none⟩ = some (.int .u8 c.toNat) := by rw [hn.cell, List.getElem?_map, hc]; rfl
            have hcl : cur.length = 64 := by rw [HCu.out, List.length_append, List.length_take, List.length_replicate, lineB_len]; omega
            have HLk : Hid ((lineB mp)[8 + k]? = some c) := Lib.hid (by
              rw [lineB, List.append_assoc, List.getElem?_append_right (by show 8 ≤ 8 + k; omega), show 8 + k - magicB.length = k from by show 8 + k - 8 = k; omega, List.getElem?_append_left (by show k < 4; exact hlt)]
              exact hc)
            obtain ⟨v0, hv0⟩ : ∃ v, wr.cell? ⟨B, 8 + k, none⟩ = some v := ⟨byteV (cur[8 + k]'(by omega)), by rw [hr.cell, List.getElem?_map, List.getElem?_eq_getElem (by omega)]; rfl⟩
            have hf := hr.free (8 + k)
            clear hr hc hcl hn
            go_wp2_with fail
            go_roundw
            case rel =>
              refine ⟨k + 1, cur.set (8 + k) c, by go_num, by omega, ?_, by rw [HCu.out, set_fill HLk.out (by omega)]; rfl, HN.out.other (by simpa using Ne.symm hne) _, HB.out.setCell hB _⟩
              have h := HR.out.set (8 + k) (byteV c)
              rwa [← List.map_set] at h
            case measure => simp [RowKit.intOf]; omega
          · obtain rfl : k = 4 := by omega
            have hcl : cur = lineB mp := by rw [HCu.out]; rfl
            subst hcl
            clear hr hn HCu HN hne
            have hLL := lineB_len mp
            generalize hL : lineB mp = L at *
            have HL0 := Lib.hid hL
            clear hL
            have hCL := closeB_len L hLL
            go_wp2_with (first
              | refine wpl_load HR.out rfl 53 _ rfl rfl _ 64 (by simpa using hLL) Tryz.underlying53 rfl (by kernel_rfl) ?_
              | (go_at_call 49; refine (call_rclose L hLL _).mono ?_; rintro e w4 ⟨rfl, hb4⟩; have HR4 := Lib.hid (HR.out.below hb4 HR.out.lt); have HB4 := Lib.hid (below_then HB.out HB.out.size hb4); clear hb4)
              | (refine wpl_storeA HR4.out rfl 53 _ _ rfl ((closeB L).map byteV) rfl rfl 64 (by simpa using hLL) (by simpa using hCL) (one_bytes _) (by kernel_rfl) ?_
                 intro w5 hr5 hk5 hs5
                 have HR5 := Lib.hid hr5
                 have HB5 := Lib.hid (hk5 _ _ HB4.out hB)
                 have HS5 := Lib.hid hs5
                 have HO5 : Hid ((w5.alloc (.cells #[] 5)).ownsRow w5.heap.size 5 1 (.slice (some ⟨w5.heap.size, 0, none⟩) 0 0) 0 (([] : List UInt8).map byteV)) := Lib.hid (World.ownsRow_made w5 #[] 0 (e := 5) (size := 1) (Nat.le_refl _) (by simp [maxLen]) rfl)
                 clear hr5 hk5 hs5)
              | (refine wpl_app HO5.out rfl _ _ rfl rfl B 0 64 64 rfl (closeB L) hCL (row_bytes (HR5.out.alloc _)) (by rw [alloc_size]; omega) (by omega) ?_
                 intro v6 w6 ho6 hb6
                 have HO6 : Hid (Own w5.heap.size w6 v6 (closeB L)) := Lib.hid (by have h := Own.app ho6 (by rw [hCL]; rfl); exact h)
                 have HB6 := Lib.hid (HB5.out.trans ((below_alloc1 w5 (.cells #[] 5)).trans hb6 |>.mono HB5.out.size))
                 have HS6 := Lib.hid (Nat.le_trans (by rw [alloc_size]; omega : w5.heap.size ≤ (w5.alloc (.cells #[] 5)).heap.size) hb6.size)
                 clear ho6 hb6))
            obtain ⟨H5, hH5⟩ : ∃ n, w5.heap.size = n := ⟨_, rfl⟩
            rw [hH5] at HO6 HS6
            have HH5 : Hid (w.heap.size ≤ H5) := Lib.hid (by rw [← hH5]; exact HB5.out.size)
            clear HO5 HR5 HR4 HR HB HCu HB4 hH5
            go_loopw [8, 9] (fun v i wr => ∃ (k : Nat), i = .int .i64 k ∧ k ≤ mp ∧ Own H5 wr v (closeB L ++ ((l.take k).map memberB).flatten) ∧ Below w.heap.size w wr ∧ H5 ≤ wr.heap.size)
              (fun _ i _ => mp - (RowKit.intOf i).toNat)
            case atStart => exact ⟨0, rfl, Nat.zero_le _, by simpa using HO6.out, HB6.out, HS6.out⟩
            case round =>
              obtain ⟨k, rfl, hk, ho, hb, hsz⟩ := hrel
              clear HO6 HB6 HS6
              have HO := Lib.hid ho
              have HB := Lib.hid hb
              have HS := Lib.hid hsz
              clear ho hb hsz
              by_cases hlt : k < mp
              · obtain ⟨m, hm⟩ : ∃ r, l[k]? = some r := ⟨_, List.getElem?_eq_getElem (by have := HM.out; omega)⟩
                have ha' := ha (by omega)
                subst ha'
                obtain ⟨vp, c0, c1, c2, c3, c4, hv⟩ := RMb.stays _ _ (keeps_below HB.out) _ _ _ (HC.out k m hm)
                obtain ⟨pa, pn, pc, rfl⟩ : ∃ a m' c, vp = .slice a m' c := by obtain ⟨a, b, o, c, h, _⟩ := hv.pieces; exact ⟨_, _, _, h⟩
                have HV := Lib.hid hv
                have HMm := Lib.hid (HL.out.mb m (List.mem_of_getElem? hm))
                have HMl := Lib.hid (memberB_le HMm.out (good_data HG.out (List.mem_of_getElem? hm)))
                have HMb := Lib.hid (makeB_le HG.out HL.out k)
                have HMk := Lib.hid hm
                have hm20 : 0 < (memberB m).length := by
                  have e2 : (((numsOf m).map halfB).flatten).length = 20 := rfl
                  rw [memberB, List.length_append, innerB, List.length_append, frontB, List.length_append, List.length_append, e2]; omega
                have k0 : (0 : Int) ≤ k := by omega
                have k1 : (k : Int) < mp := by omega
                clear hm hv ha
                generalize hCC : closeB L ++ ((l.take k).map memberB).flatten = CC at HO
                have HCC := Lib.hid hCC
                have HCl : Hid (CC.length ≤ 6000000000000) := Lib.hid (by rw [← hCC, List.length_append, hCL]; have := HMb.out; omega)
                clear hCC
                go_wp2_with (first
                  | (go_at_call 50; refine (call_rmember m (.slice pa pn pc) _ HV.out HMm.out).mono ?_; rintro e w7 ⟨v7, rfl, ho7, hb7⟩
                     obtain ⟨hl7, _, g7, c7, rfl, hg7, hc7⟩ := bytes_own ho7 hm20
                     have HO7 := Lib.hid (HO.out.below hb7)
                     have HB7 := Lib.hid (below_then HB.out HB.out.size hb7)
                     have HS7 := Lib.hid (Nat.le_trans HS.out hb7.size)
                     have HC7 := Lib.hid hc7
                     clear ho7 hb7 hc7 hg7 hl7)
                  | (refine wpl_app HO7.out rfl _ _ rfl rfl g7 0 (memberB m).length c7 rfl (memberB m) rfl (fun j b hj => by rw [Nat.zero_add]; exact HC7.out j b hj) HS7.out (by have := HCl.out; have := HMl.out; omega) ?_
                     intro v8 w8 h8 hb8
                     have HO8 := Lib.hid (Own.app h8 rfl)
                     have HB8 := Lib.hid (HB7.out.trans (hb8.mono HH5.out))
                     have HS8 := Lib.hid (Nat.le_trans HS7.out hb8.size)
                     clear h8 hb8))
                go_roundw
                case rel =>
                  refine ⟨k + 1, by go_num, by omega, ?_, HB8.out, HS8.out⟩
                  have h := HO8.out
                  rw [← HCC.out] at h
                  rw [List.take_add_one, HMk.out]
                  simpa using h
                case measure => simp [RowKit.intOf]; omega
              · obtain rfl : k = mp := by omega
                have HMF : Hid (closeB L ++ ((l.take k).map memberB).flatten = makeB l) := Lib.hid (by
                  rw [List.take_of_length_le (by have := HM.out; omega), makeB, HM.out, ← HL0.out])
                clear ha
                go_wp2
                go_ret2
                refine ⟨⟨_, rfl, ?_⟩, HB.out⟩
                have h := HO.out
                rw [HMF.out] at h
                exact own_mono h HH5.out
end Go.Proofs.YtlecpjfggoehdaaGreatDoor.Ar
