
/- Archive: a member's bytes, the reference's. -/
import Derived.Test.YtlecpjfggoehdaaGreatDoorArG
import Derived.Lib.ConvBytes
set_option linter.unusedVariables false
set_option linter.unusedSimpArgs false
set_option maxRecDepth 100000
namespace Go.Proofs.YtlecpjfggoehdaaGreatDoor.Ar
open Go.RowKit Go.Sort Go.Lib Go.Proofs.YtlecpjfggoehdaaGreatDoor.Rs

theorem row_bytes {w : World} {B T : Nat} {l : List UInt8} (h : Row w B T (l.map byteV)) : ∀ j b, l[j]? = some b → w.cell? ⟨B, 0 + j, none⟩ = some (byteV b) := fun j b hj => by
  rw [Nat.zero_add, h.cell, List.getElem?_map, hj]; rfl
theorem Own.app {base : Nat} {w : World} {v : Value} {l t : List UInt8} {n : Nat} (h : w.ownsRow base 5 1 v n (l.map byteV ++ t.map byteV)) (hn : n = l.length + t.length) : Own base w v (l ++ t) := by
  subst hn
  show World.ownsRow _ _ _ _ _ _ _
  rw [List.length_append, List.map_append]
  exact h
theorem Own.below {base : Nat} {w w1 : World} {v : Value} {l : List UInt8} (h : Own base w v l) (hb : Below w.heap.size w w1) : Own base w1 v l := own_below h hb

theorem conv_bytes (w : World) (l : List UInt8) : ∃ B c w', (convert 9 22 (.string (bs l))).run Tryz.prog w = .ok (.slice (some ⟨B, 0, none⟩) l.length c) w' ∧ (∀ j b, l[j]? = some b → w'.cell? ⟨B, 0 + j, none⟩ = some (byteV b)) ∧ Below w.heap.size w w' := by
  have h := Lib.run_convert_string_bytes (P := Tryz.prog) w 9 22 5 (bs l) Tryz.underlying9 Tryz.underlying22 Tryz.underlying5
  rw [bs_size] at h
  refine ⟨_, _, _, h, fun j b hj => ?_, ?_⟩
  · have hj2 := (List.getElem?_eq_some_iff.1 hj).1
    rw [Nat.zero_add, bytesWorld_cell w 5 (bs l) j (by rw [bs_size]; exact hj2)]
    simp only [bs, List.getD, hj]
    rfl
  · exact ⟨rfl, rfl, rfl, by rw [bytesWorld_size]; omega, fun i hi => bytesWorld_at_old w 5 (bs l) i hi⟩
theorem wpl_conv {ops : Array Oper} {rest : List Oper} {o : Oper} {a : Act} {Q : Exit → Act → World → Prop} {w : World} (hgd : o.guard = none) (x : Operand) (ho : o.op = .convert 9 22 x) (l : List UInt8) (hx : a.eval x = .string (bs l))
    (h : ∀ B c w', (∀ j b, l[j]? = some b → w'.cell? ⟨B, 0 + j, none⟩ = some (byteV b)) → Below w.heap.size w w' → wpList Tryz.prog ops Q rest (a.put o.dst (.slice (some ⟨B, 0, none⟩) l.length c)) w') : wpList Tryz.prog ops Q (o :: rest) a w := by
  refine wpList_plain hgd fun K hK => ?_
  obtain ⟨B, c, w', hr, h1, h2⟩ := conv_bytes w l
  unfold Oper.wp execOp
  simp only [ho, Sem.run_bind, Sem.run_pure, Result.andThen_ok, hx, hr]
  exact hK _ _ (h B c w' h1 h2)
theorem call_rhalfB (x : Int) (w : World) : Calls Tryz.prog 48 #[.int .i64 x] w fun e w' => ∃ B, e = .returned (.slice (some ⟨B, 0, none⟩) 4 4) ∧ Row w' B 5 ((halfB x).map byteV) ∧ Below w.heap.size w w' :=
  (call_rhalf x w).mono fun e w' h => ⟨_, h⟩
set_option maxHeartbeats 2000000 in
theorem call_rmember (m : Mb) (vp : Value) (w : World) (hv : MbV w m vp) (hs : MbSm m) :
    Calls Tryz.prog 50 #[.agg (mbCells m vp).toArray] w fun e w' => ∃ v, e = .returned v ∧ Own w.heap.size w' v (memberB m) ∧ Below w.heap.size w w' := by
  obtain ⟨ap, mp, cp, rfl⟩ : ∃ a m' c, vp = .slice a m' c := by obtain ⟨a, b, o, c, h, _⟩ := hv.pieces; exact ⟨_, _, _, h⟩
  have hmp : m.pieces.length = mp := by obtain ⟨a, b, o, c, h, _⟩ := hv.pieces; cases h; rfl
  have HM := Lib.hid hmp
  have HV := Lib.hid hv
  have HSm := Lib.hid hs
  have l1 := hs.path; have l2 := hs.link; have l3 := hs.pieces
  rw [hmp] at l3
  have B1 := Lib.hid (mbS (N := 1) (Box.new w 58 (mbCells m (.slice ap mp cp))) (by show _ ≤ (w.alloc _).heap.size; rw [alloc_size]; omega))
  clear hv hs hmp
  obtain ⟨np, hnp⟩ : ∃ n, m.path.length = n := ⟨_, rfl⟩
  obtain ⟨nl, hnl⟩ : ∃ n, m.link.length = n := ⟨_, rfl⟩
  have zp : (bs m.path).size = np := (bs_size _).trans hnp
  have zl : (bs m.link).size = nl := (bs_size _).trans hnl
  rw [hnp] at l1
  rw [hnl] at l2
  have HNP := Lib.hid hnp
  have HNL := Lib.hid hnl
  simp only [mbCells] at B1 ⊢
  have HN : Hid (numsOf m = [m.kind, (np : Int), (nl : Int), m.size, (mp : Int)]) := by show _ = _; rw [numsOf, HM.out, hnp, hnl]
  have b1 := B1.out
  have HS := Lib.hid (b1.step (by omega) ((Below.refl _ _).alloc b1.size (.cells #[] 5)))
  have HO : Hid (Own (w.heap.size + 1) ((w.alloc (.cells #[.int .i64 m.kind, .string (bs m.path), .string (bs m.link), .int .i64 m.size, .slice ap mp cp] 58)).alloc (.cells #[] 5)) (.slice (some ⟨w.heap.size + 1, 0, none⟩) 0 0) []) := by
    have h := World.ownsRow_made (w.alloc (.cells #[.int .i64 m.kind, .string (bs m.path), .string (bs m.link), .int .i64 m.size, .slice ap mp cp] 58)) #[] 0 (base := w.heap.size + 1) (e := 5) (size := 1) b1.size (by simp [maxLen]) rfl
    rw [alloc_size] at h
    exact h
  obtain ⟨sb, hsb, lsb, qsb⟩ := sumBB Tryz.prog m.path m.link 2097152 (by omega) (by omega)
  clear hnp hnl b1 B1
  go_enter Tryz.func50, Tryz.ntmps50
  go_wp2_with (first
    | (go_at_call 48; refine (call_rhalfB _ _).mono ?_; rintro e w1 ⟨B1, rfl, hr1, hb1⟩
       have HR := Lib.hid hr1; have HOn := Lib.hid (HO.out.below hb1); have HSn := Lib.hid (HS.out.step (by omega) (hb1.mono HS.out.size)); clear hr1 hb1 HO HS; (try clear hS); have HO := HOn; have HS := HSn; clear HOn HSn)
    | (refine wpl_app HO.out rfl _ _ rfl rfl B1 0 4 4 rfl _ rfl (row_bytes HR.out) HS.out.size (by (try simp only [List.length_append, List.length_nil, halfB, List.length_cons]); omega) ?_
       intro v' w' h1 h2
       have HOn := Lib.hid (Own.app h1 rfl); have HSn := Lib.hid (HS.out.step (by omega) h2); clear h1 h2 HO HS; (try clear HR); (try clear HC); have HO := HOn; have HS := HSn; clear HOn HSn; have hS := HS.out)
    | (refine wpl_conv rfl _ rfl sb rfl ?_
       intro B1 c1 w1 hr1 hb1
       have HC := Lib.hid hr1; have HOn := Lib.hid (HO.out.below hb1); have HSn := Lib.hid (HS.out.step (by omega) (hb1.mono HS.out.size)); clear hr1 hb1 HO HS; (try clear hS); have HO := HOn; have HS := HSn; clear HOn HSn)
    | (refine wpl_app HO.out rfl _ _ rfl rfl B1 0 sb.length c1 rfl sb rfl HC.out HS.out.size (by (try simp only [List.length_append, List.length_nil, halfB, List.length_cons]); omega) ?_
       intro v' w' h1 h2
       have HOn := Lib.hid (Own.app h1 rfl); have HSn := Lib.hid (HS.out.step (by omega) h2); clear h1 h2 HO HS; (try clear HR); (try clear HC); have HO := HOn; have HS := HSn; clear HOn HSn; have hS := HS.out))
  have HF : Hid (Own (w.heap.size + 1) w' v' (frontB m)) := by
    have h := HO.out
    have e : frontB m = [] ++ halfB m.kind ++ halfB np ++ halfB nl ++ halfB m.size ++ halfB mp ++ sb := by
      rw [frontB, HN.out, hsb.out]
      simp
    rw [e]
    exact h
  have LF : (frontB m).length ≤ 2097172 := by
    have e2 : (((numsOf m).map halfB).flatten).length = 4 * 5 := by rw [HN.out]; rfl
    have := HNP.out; have := HNL.out
    rw [frontB, List.length_append, List.length_append, e2]; omega
  have LP : 20 ≤ (frontB m).length := by
    have e2 : (((numsOf m).map halfB).flatten).length = 4 * 5 := by rw [HN.out]; rfl
    rw [frontB, List.length_append, List.length_append, e2]; omega
  clear HO hsb lsb qsb hS
  go_loopw [3, 4] (fun v i wr => ∃ (k : Nat), i = .int .i64 k ∧ k ≤ mp ∧ MbS w m (.slice ap mp cp) 1 wr ∧
      Own (w.heap.size + 1) wr v (frontB m ++ ((m.pieces.take k).map pieceB).flatten))
    (fun _ i _ => mp - (RowKit.intOf i).toNat)
  case atStart => exact ⟨0, rfl, Nat.zero_le _, HS.out, by simpa using HF.out⟩
  case round =>
    obtain ⟨k, rfl, hkm, hS, ho⟩ := hrel
    clear HF HS
    have HS := Lib.hid hS
    have HO := Lib.hid ho
    clear ho
    by_cases hlt : k < mp
    · obtain ⟨pc, hpc⟩ : ∃ r, m.pieces[k]? = some r := ⟨_, List.getElem?_eq_getElem (by have := HM.out; omega)⟩
      obtain ⟨aa, bb, oo, cc, ee, ha, hc⟩ := HV.out.pieces
      rw [HM.out] at ee ha
      cases ee
      have ha' := ha (by omega)
      subst ha'
      have HP0 := Lib.hid (hc k pc hpc)
      have hP := RPc.stays _ _ (keeps_below HS.out.box.2) _ _ _ HP0.out
      obtain ⟨m0, m1, _⟩ := hP
      have hdl := HSm.out.data pc (List.mem_of_getElem? hpc)
      obtain ⟨nd, hnd⟩ : ∃ n, pc.data.length = n := ⟨_, rfl⟩
      have zd : (bs pc.data).size = nd := (bs_size _).trans hnd
      rw [hnd] at hdl
      have HND := Lib.hid hnd
      have LB : (frontB m ++ ((m.pieces.take k).map pieceB).flatten).length ≤ 10000000000000 := by
        rw [List.length_append]
        have h6 : ((m.pieces.take k).map pieceB).length ≤ 1048576 := by simp; omega
        have := flat_le (l := (m.pieces.take k).map pieceB) (m := 1048584) (fun x hx => by
          obtain ⟨y, hy, rfl⟩ := List.mem_map.1 hx
          have := HSm.out.data y (List.mem_of_mem_take hy)
          rw [pieceB, List.length_append, List.length_append]
          show 4 + 4 + _ ≤ _
          omega)
        have h7 := Nat.mul_le_mul_left 1048584 h6
        omega
      have HPc := Lib.hid hpc
      generalize hL : frontB m ++ ((m.pieces.take k).map pieceB).flatten = L at HO LB
      have HL := Lib.hid hL
      clear hpc hnd ha hc hL
      go_wp2_with (first
        | (go_at_call 48; refine (call_rhalfB _ _).mono ?_; rintro e w1 ⟨B1, rfl, hr1, hb1⟩
           have HR := Lib.hid hr1; have HOn := Lib.hid (HO.out.below hb1); have HSn := Lib.hid (HS.out.step (by omega) (hb1.mono HS.out.size)); clear hr1 hb1 HO HS; (try clear hS m0 m1); have HO := HOn; have HS := HSn; clear HOn HSn)
        | (refine wpl_app HO.out rfl _ _ rfl rfl B1 0 4 4 rfl _ rfl (row_bytes HR.out) HS.out.size (by (try simp only [List.length_append, List.length_nil, halfB, List.length_cons]); omega) ?_
           intro v' w' h1 h2
           have HOn := Lib.hid (Own.app h1 rfl); have HSn := Lib.hid (HS.out.step (by omega) h2); clear h1 h2 HO HS; (try clear HR); (try clear HC); have HO := HOn; have HS := HSn; clear HOn HSn; have hS := HS.out; obtain ⟨m0, m1, _⟩ := RPc.stays _ _ (keeps_below HS.out.box.2) _ _ _ HP0.out)
        | (refine wpl_conv rfl _ rfl pc.data rfl ?_
           intro B2 c1 w1 hr1 hb1
           have HC := Lib.hid hr1; have HOn := Lib.hid (HO.out.below hb1); have HSn := Lib.hid (HS.out.step (by omega) (hb1.mono HS.out.size)); clear hr1 hb1 HO HS; (try clear hS m0 m1); have HO := HOn; have HS := HSn; clear HOn HSn)
        | (refine wpl_app HO.out rfl _ _ rfl rfl B2 0 pc.data.length c1 rfl pc.data rfl HC.out HS.out.size (by (try simp only [List.length_append, List.length_nil, halfB, List.length_cons]); have := HND.out; omega) ?_
           intro v' w' h1 h2
           have HOn := Lib.hid (Own.app h1 rfl); have HSn := Lib.hid (HS.out.step (by omega) h2); clear h1 h2 HO HS; (try clear HR); (try clear HC); have HO := HOn; have HS := HSn; clear HOn HSn; have hS := HS.out))
      go_roundw
      case rel =>
        refine ⟨k + 1, by go_num, by omega, HS.out, ?_⟩
        have e : frontB m ++ ((m.pieces.take (k + 1)).map pieceB).flatten = L ++ halfB pc.off ++ halfB nd ++ pc.data := by
          rw [List.take_add_one, HPc.out, ← HND.out, ← HL.out]
          simp [pieceB]
        rw [e]
        exact HO.out
      case measure => simp [RowKit.intOf]; omega
    · obtain rfl : k = mp := by omega
      have HI : Hid (Own (w.heap.size + 1) wr u3 (innerB m)) := by
        have h := HO.out
        rw [List.take_of_length_le (by have := HM.out; omega)] at h
        exact h
      have LI : (innerB m).length ≤ 10000000000000 := by
        rw [innerB, List.length_append]
        have h6 : (m.pieces.map pieceB).length ≤ 1048576 := by simp; have := HM.out; omega
        have := flat_le (l := m.pieces.map pieceB) (m := 1048584) (fun x hx => by
          obtain ⟨y, hy, rfl⟩ := List.mem_map.1 hx
          have := HSm.out.data y hy
          rw [pieceB, List.length_append, List.length_append]
          show 4 + 4 + _ ≤ _
          omega)
        have h7 := Nat.mul_le_mul_left 1048584 h6
        omega
      have LP2 : 0 < (innerB m).length := by rw [innerB, List.length_append]; omega
      obtain ⟨s, hs⟩ : ∃ s, sumOnB 0 (innerB m) = s := ⟨_, rfl⟩
      have s0 : 0 ≤ s := by rw [← hs, sumOnB, bits_xor]; exact bI_lo _
      have s1 : s < 4294967296 := by rw [← hs, sumOnB, bits_xor]; exact bI_hi _
      have HSs := Lib.hid hs
      clear hs HO
      go_wp2_with (first
        | (go_at_call 71; refine (call_rsum _ _ _ (bytes_own HI.out LP2).2.1 (by omega)).mono ?_; rintro e w1 ⟨rfl, rfl⟩; rw [HSs.out])
        | (go_at_call 48; refine (call_rhalfB _ _).mono ?_; rintro e w1 ⟨B1, rfl, hr1, hb1⟩
           have HR := Lib.hid hr1; have HO := Lib.hid (HI.out.below hb1); have HS := Lib.hid (HS.out.step (by omega) (hb1.mono HS.out.size)); clear hr1 hb1)
        | (refine wpl_app HO.out rfl _ _ rfl rfl B1 0 4 4 rfl _ rfl (row_bytes HR.out) HS.out.size (by omega) ?_
           intro v' w' h1 h2
           have HO := Lib.hid (Own.app h1 rfl); have HS := Lib.hid (HS.out.step (by omega) h2); clear h1 h2))
      go_ret
      have e : memberB m = innerB m ++ halfB s := by rw [memberB, HSs.out]
      refine ⟨_, rfl, ?_, HS.out.box.2⟩
      rw [e]
      exact own_mono HO.out (by omega)
end Go.Proofs.YtlecpjfggoehdaaGreatDoor.Ar
