
/- Archive: a member's bytes. -/
import Derived.Test.YtlecpjfggoehdaaGreatDoorArF
import Derived.Deep.RegionHeld3
set_option linter.unusedVariables false
set_option linter.unusedSimpArgs false
set_option maxRecDepth 100000
namespace Go.Proofs.YtlecpjfggoehdaaGreatDoor.Ar
open Go.RowKit Go.Sort Go.Lib Go.Proofs.YtlecpjfggoehdaaGreatDoor.Rs

theorem flat_le {l : List (List UInt8)} {m : Nat} (h : ∀ x ∈ l, x.length ≤ m) : l.flatten.length ≤ m * l.length := by
  induction l with
  | nil => simp
  | cons x l ih =>
    have h1 := h x (by simp)
    have h2 := ih (fun y hy => h y (by simp [hy]))
    simp only [List.flatten_cons, List.length_append, List.length_cons, Nat.mul_add]
    omega
structure Pc where
  off : Int
  data : List UInt8
structure Mb where
  kind : Int
  path : List UInt8
  link : List UInt8
  size : Int
  pieces : List Pc

def RPc (w : World) (b o : Nat) (p : Pc) : Prop := w.cell? ⟨b, o, none⟩ = some (.int .i64 p.off) ∧ w.cell? ⟨b, o + 1, none⟩ = some (.string (bs p.data)) ∧ I64 p.off
theorem RPc.stays : Stays RPc := fun _ _ hk _ _ _ h => ⟨hk _ _ _ h.1, hk _ _ _ h.2.1, h.2.2⟩
/-- A member's value: its numbers, and a slice that reads as its pieces. -/
structure MbV (w : World) (m : Mb) (vp : Value) : Prop where
  pieces : Sl RPc 2 w vp m.pieces
  kind : I64 m.kind
  size : I64 m.size
theorem MbV.keep {w w' : World} {m : Mb} {vp : Value} (h : MbV w m vp) (hk : Keeps w w') : MbV w' m vp := ⟨h.pieces.keep RPc.stays hk, h.kind, h.size⟩
structure MbSm (m : Mb) : Prop where
  path : m.path.length ≤ 1048576
  link : m.link.length ≤ 1048576
  pieces : m.pieces.length ≤ 1048576
  data : ∀ p ∈ m.pieces, p.data.length ≤ 1048576

def mbCells (m : Mb) (vp : Value) : List Value := [.int .i64 m.kind, .string (bs m.path), .string (bs m.link), .int .i64 m.size, vp]

def numsOf (m : Mb) : List Int := [m.kind, m.path.length, m.link.length, m.size, m.pieces.length]
def pieceB (p : Pc) : List UInt8 := halfB p.off ++ halfB p.data.length ++ p.data
def frontB (m : Mb) : List UInt8 := ((numsOf m).map halfB).flatten ++ m.path ++ m.link
def innerB (m : Mb) : List UInt8 := frontB m ++ (m.pieces.map pieceB).flatten
def memberB (m : Mb) : List UInt8 := innerB m ++ halfB (sumOnB 0 (innerB m))

/-- Apart from the row that was grown, what was there is as it was. -/
def Rest (w w' : World) (v : Value) : Prop := ∀ B, B < w.heap.size → v.ownBlock ≠ some B → w'.heap[B]? = w.heap[B]?
theorem Grew.rest {w w' : World} {v v' : Value} (h : Grew w w' v v') : Rest w w' v := fun B hB hne => (h B hB hne).1
section
variable {ops : Array Oper} {o : Oper} {a : Act} {K : Act → World → Prop} {Q : Exit → Act → World → Prop} {E : Prop} {w : World} {base n : Nat} {v : Value} {l : List UInt8}
/-- append(b, s...) of a text, at a step of a region that draws -/
theorem step_apps (hown : w.ownsRow base 5 1 v n (l.map byteV)) (hgd : o.guard = none) (s x : Operand) (ho : o.op = .call { callee := .builtin .append, args := #[s, x], argTypes := #[22, 9] })
    (hs : a.eval s = v) (t : List UInt8) (hx : a.eval x = .string (bs t)) (hbase : base ≤ w.heap.size) (hn : n + t.length ≤ 140737488355328)
    (h : ∀ v' w', w'.ownsRow base 5 1 v' (n + t.length) ((l ++ t).map byteV) → Below base w w' → Rest w w' v → K (a.put o.dst v') w') :
    if Region.wanted o (yielded ops a.tmps) = true then Oper.wp Tryz.prog o a w K Q else E := by
  have hw : Region.wanted o (yielded ops a.tmps) = true := by simp [Region.wanted, hgd]
  rw [if_pos hw]
  obtain ⟨i0, hi, hz0, hz1, hz2⟩ := info_parts info5
  obtain ⟨v', w', hr, h2, h3, h4⟩ := run_append_own_string (P := Tryz.prog) w base 22 9 o.type 5 i0 Tryz.underlying22 Tryz.underlying9 hi hz0 hz1 hz2 v n (l.map byteV) hown (bs t) (by rw [bs_size]; simp only [maxLen]; omega) (by rw [bs_size]; omega) hbase
  unfold Oper.wp execOp
  simp only [ho, resolve, invoke, builtin, Sem.run_bind, Sem.run_pure, Result.andThen_ok, List.map_toArray, List.map_cons, List.map_nil, hs, hx, hr]
  refine h _ _ ?_ (below_grown hown h3 (Nat.le_refl _) hbase) (fun B hB hne => h3.block B hB (fun e => hne e.symm))
  have e : strCells (bs t) = t.map byteV := by simp only [strCells, bs]; rfl
  rw [bs_size, e, ← List.map_append] at h2
  exact h2
end

abbrev MbS (w0 : World) (m : Mb) (vp : Value) (N : Nat) (w' : World) : Prop :=
  w'.cell? ⟨w0.heap.size, 0, none⟩ = some (.int .i64 m.kind) ∧ w'.cell? ⟨w0.heap.size, 1, none⟩ = some (.string (bs m.path)) ∧ w'.cell? ⟨w0.heap.size, 2, none⟩ = some (.string (bs m.link)) ∧
  w'.cell? ⟨w0.heap.size, 3, none⟩ = some (.int .i64 m.size) ∧ w'.cell? ⟨w0.heap.size, 4, none⟩ = some vp ∧ Hid (Box w0 w0.heap.size 58 (mbCells m vp) w' ∧ w0.heap.size + N ≤ w'.heap.size)
theorem mbS {w0 w' : World} {m : Mb} {vp : Value} {N : Nat} (h : Box w0 w0.heap.size 58 (mbCells m vp) w') (hN : w0.heap.size + N ≤ w'.heap.size) : MbS w0 m vp N w' :=
  ⟨h.1.cell 0, h.1.cell 1, h.1.cell 2, h.1.cell 3, h.1.cell 4, Lib.hid ⟨h, hN⟩⟩
theorem MbS.box {w0 w' : World} {m : Mb} {vp : Value} {N : Nat} (h : MbS w0 m vp N w') : Box w0 w0.heap.size 58 (mbCells m vp) w' := h.2.2.2.2.2.out.1
theorem MbS.size {w0 w' : World} {m : Mb} {vp : Value} {N : Nat} (h : MbS w0 m vp N w') : w0.heap.size + N ≤ w'.heap.size := h.2.2.2.2.2.out.2
theorem MbS.drew {w0 w' : World} {m : Mb} {vp : Value} {N : Nat} (h : MbS w0 m vp N w') : MbS w0 m vp N w'.drew := mbS h.box.drew h.size
theorem MbS.step {w0 w' w1 : World} {m : Mb} {vp : Value} {N : Nat} (h : MbS w0 m vp N w') (hN : 0 < N) (hb : Below (w0.heap.size + N) w' w1) : MbS w0 m vp N w1 :=
  mbS ⟨h.box.1.below hb (by omega), h.box.2.trans (hb.mono (by omega))⟩ (Nat.le_trans h.size hb.size)

theorem _root_.Go.Proofs.YtlecpjfggoehdaaGreatDoor.Row.grew {w w' : World} {B T : Nat} {cur : List Value} {v : Value} (h : Row w B T cur) (hg : Rest w w' v) (hne : v.ownBlock ≠ some B) : Row w' B T cur := (hg B h.lt hne).trans h
abbrev PcS (w0 : World) (m : Mb) (vp : Value) (B : Nat) (p : Pc) (w' : World) : Prop :=
  w'.cell? ⟨B, 0, none⟩ = some (.int .i64 p.off) ∧ w'.cell? ⟨B, 1, none⟩ = some (.string (bs p.data)) ∧ Hid (Row w' B 62 [.int .i64 p.off, .string (bs p.data)]) ∧ Hid (MbS w0 m vp 2 w')
theorem pcS {w0 w' : World} {m : Mb} {vp : Value} {B : Nat} {p : Pc} (h : Row w' B 62 [.int .i64 p.off, .string (bs p.data)]) (k : MbS w0 m vp 2 w') : PcS w0 m vp B p w' := ⟨h.cell 0, h.cell 1, Lib.hid h, Lib.hid k⟩
theorem PcS.row {w0 w' : World} {m : Mb} {vp : Value} {B : Nat} {p : Pc} (h : PcS w0 m vp B p w') : Row w' B 62 [.int .i64 p.off, .string (bs p.data)] := h.2.2.1.out
theorem PcS.mb {w0 w' : World} {m : Mb} {vp : Value} {B : Nat} {p : Pc} (h : PcS w0 m vp B p w') : MbS w0 m vp 2 w' := h.2.2.2.out
theorem PcS.drew {w0 w' : World} {m : Mb} {vp : Value} {B : Nat} {p : Pc} (h : PcS w0 m vp B p w') : PcS w0 m vp B p w'.drew := pcS h.row.drew h.mb.drew
theorem PcS.step {w0 w' w1 : World} {m : Mb} {vp : Value} {B : Nat} {p : Pc} {v : Value} (h : PcS w0 m vp B p w') (hb : Below (w0.heap.size + 2) w' w1) (hg : Rest w' w1 v) (hne : v.ownBlock ≠ some B) : PcS w0 m vp B p w1 :=
  pcS (h.row.grew hg hne) (h.mb.step (by omega) hb)

theorem dsize (w : World) (o : Obj) : ((w.alloc o).drew).heap.size = w.heap.size + 1 := alloc_size w o
/-- a text of one's own -/
def Own (base : Nat) (w : World) (v : Value) (l : List UInt8) : Prop := w.ownsRow base 5 1 v l.length (l.map byteV)

set_option maxHeartbeats 2000000 in
theorem call_member (m : Mb) (vp : Value) (w : World) (hv : MbV w m vp) (hs : MbSm m) (hp : Stp w) :
    Calls Tryz.prog 23 #[.agg (mbCells m vp).toArray] w fun e w' => ∃ v, e = .returned v ∧ w'.ownsRow w.heap.size 5 1 v (memberB m).length ((memberB m).map byteV) ∧ Below w.heap.size w w' := by
  obtain ⟨ap, mp, cp, rfl⟩ : ∃ a m' c, vp = .slice a m' c := by obtain ⟨a, b, o, c, h, _⟩ := hv.pieces; exact ⟨_, _, _, h⟩
  have hmp : m.pieces.length = mp := by obtain ⟨a, b, o, c, h, _⟩ := hv.pieces; cases h; rfl
  have HM := Lib.hid hmp
  have HV := Lib.hid hv
  have HSm := Lib.hid hs
  have HP := Lib.hid hp
  have B0 := Lib.hid (mbS (N := 1) (Box.new w 58 (mbCells m (.slice ap mp cp))) (by show _ ≤ (w.alloc _).heap.size; rw [alloc_size]; omega))
  have l1 := hs.path; have l2 := hs.link; have l3 := hs.pieces
  rw [hmp] at l3
  clear hv hs hp hmp
  obtain ⟨np, hnp⟩ : ∃ n, m.path.length = n := ⟨_, rfl⟩
  obtain ⟨nl, hnl⟩ : ∃ n, m.link.length = n := ⟨_, rfl⟩
  have zp : (bs m.path).size = np := (bs_size _).trans hnp
  have zl : (bs m.link).size = nl := (bs_size _).trans hnl
  rw [hnp] at l1
  rw [hnl] at l2
  have HNP := Lib.hid hnp
  have HNL := Lib.hid hnl
  have B1 := B0.out
  simp only [mbCells] at B1 ⊢
  have eN : numsOf m = [m.kind, (np : Int), (nl : Int), m.size, (mp : Int)] := by rw [numsOf, HM.out, hnp, hnl]
  have HN := Lib.hid eN
  have R0 := Lib.hid (row_new1 w (.cells #[.int .i64 m.kind, .string (bs m.path), .string (bs m.link), .int .i64 m.size, .slice ap mp cp] 58) 3 [.int .i64 m.kind, .int .i64 np, .int .i64 nl, .int .i64 m.size, .int .i64 mp])
  have B2 := Lib.hid (mbS (N := 2) (B1.box.alloc (.cells #[.int .i64 m.kind, .int .i64 np, .int .i64 nl, .int .i64 m.size, .int .i64 mp] 3)) (by rw [alloc_size, alloc_size]; omega))
  clear hnp hnl eN
  go_enter Tryz.func23, Tryz.ntmps23
  go_wp2
  clear B1
  go_loopw [3, 23] (fun v i wr => ∃ (k : Nat), i = .int .i64 k ∧ k ≤ 5 ∧ MbS w m (.slice ap mp cp) 2 wr ∧ Row wr (w.heap.size + 1) 3 [.int .i64 m.kind, .int .i64 np, .int .i64 nl, .int .i64 m.size, .int .i64 mp] ∧
      wr.ownsRow (w.heap.size + 2) 5 1 v (4 * k) (((((numsOf m).take k).map halfB).flatten).map byteV))
    (fun _ i _ => 5 - (RowKit.intOf i).toNat)
  case atStart => exact ⟨0, rfl, Nat.zero_le _, B2.out, R0.out, World.ownsRow_nil _ _ _ _⟩
  case round =>
    obtain ⟨k, rfl, hk, hS, hr, ho⟩ := hrel
    have HS := Lib.hid hS
    have HR := Lib.hid hr
    have HO := Lib.hid ho
    clear R0 B2 ho
    by_cases hlt : k < 5
    · obtain ⟨x, hx⟩ : ∃ x, (numsOf m)[k]? = some x := ⟨_, List.getElem?_eq_getElem (by rw [HN.out]; exact hlt)⟩
      have hcw : wr.cell? ⟨w.heap.size + 1, k, none⟩ = some (.int .i64 x) := by
        rw [hr.cell]
        have h := hx
        rw [HN.out] at h
        match k, hlt with
        | 0, _ | 1, _ | 2, _ | 3, _ | 4, _ => cases h; rfl
      have HX := Lib.hid hx
      clear hS hr hx
      go_wp2_with (go_at_call 20; refine (call_half _ _ _ _ x _ HO.out HS.out.size (by omega)).mono ?_; rintro e w1 ⟨v1, rfl, ho1, hb1, _⟩; have HO1 := Lib.hid ho1; have HB1 := Lib.hid hb1; clear ho1 hb1)
      go_roundw
      case rel =>
        refine ⟨k + 1, by go_num, by omega, HS.out.step (by omega) HB1.out, HR.out.below HB1.out (by omega), ?_⟩
        have h := HO1.out
        rw [List.take_add_one, HX.out]
        simpa [Nat.mul_add] using h
      case measure => simp [RowKit.intOf]; omega
    · obtain rfl : k = 5 := by omega
      have hfl : ((numsOf m).take 5) = numsOf m := List.take_of_length_le (by rw [HN.out]; exact Nat.le_refl _)
      rw [hfl] at HO
      clear hr HR
      have HD := Lib.hid HO.out.drew
      clear hS
      go_wp2_with fail
      go_region_held3 (fun w' => MbS w m (.slice ap mp cp) 2 w')
        (first | exact MbS.drew HS.out | exact MbS.step ‹MbS w m _ _ _› (by omega) ‹Hid (Below (w.heap.size + 2) _ _)›.out)
        (first
          | (refine step_apps HD.out (by rfl) _ _ (by rfl) (by rfl) m.path (by rfl) HS.out.size (by have := HNP.out; omega) ?_; intro v1 w1 ho1 hb1 _; have HO1 := Lib.hid ho1; have HB1 := Lib.hid hb1; clear ho1 hb1)
          | (refine step_apps HO1.out (by rfl) _ _ (by rfl) (by rfl) m.link (by rfl) (by have := HB1.out.size; have := HS.out.size; exact Nat.le_trans ‹_› ‹_›) (by have := HNP.out; have := HNL.out; omega) ?_; intro v2 w2 ho2 hb2 _; have HO2 := Lib.hid ho2; have HB2 := Lib.hid hb2; clear ho2 hb2 HB1))
      have HF : Hid (Own (w.heap.size + 2) w2 v2 (frontB m)) := by
        have h := HO2.out
        have e : frontB m = ((numsOf m).map halfB).flatten ++ m.path ++ m.link := rfl
        have e2 : (((numsOf m).map halfB).flatten).length = 4 * 5 := by rw [HN.out]; rfl
        show World.ownsRow _ _ _ _ _ _ _
        rw [e, List.length_append, List.length_append, e2]
        exact h
      have LF : (frontB m).length ≤ 2097172 := by
        have e2 : (((numsOf m).map halfB).flatten).length = 4 * 5 := by rw [HN.out]; rfl
        have := HNP.out; have := HNL.out
        rw [frontB, List.length_append, List.length_append, e2]; omega
      have HS2 := Lib.hid ‹MbS w m _ _ w2›
      clear HO2 HB2 HO HD HO1
      rw [show ((5 : Nat) : Int) = 5 from rfl]
      go_wp2
      go_loopw [3, 41] (fun v i wr => ∃ (k : Nat), i = .int .i64 k ∧ k ≤ mp ∧ MbS w m (.slice ap mp cp) 2 wr ∧
          Own (w.heap.size + 2) wr v (frontB m ++ ((m.pieces.take k).map pieceB).flatten))
        (fun _ i _ => mp - (RowKit.intOf i).toNat)
      case atStart => exact ⟨0, rfl, Nat.zero_le _, HS2.out, by simpa using HF.out⟩
      case round =>
        obtain ⟨k, rfl, hkm, hS, ho⟩ := hrel
        have HS := Lib.hid hS
        have HO := Lib.hid ho
        clear HF HS2 ho
        by_cases hlt : k < mp
        · obtain ⟨pc, hpc⟩ : ∃ r, m.pieces[k]? = some r := ⟨_, List.getElem?_eq_getElem (by have := HM.out; omega)⟩
          obtain ⟨aa, bb, oo, cc, ee, ha, hc⟩ := HV.out.pieces.keep RPc.stays (keeps_below hS.box.2)
          rw [HM.out] at ee ha
          cases ee
          have ha' := ha (by omega)
          subst ha'
          obtain ⟨m0, m1, i0⟩ := hc k pc hpc
          have hdl := HSm.out.data pc (List.mem_of_getElem? hpc)
          obtain ⟨nd, hnd⟩ : ∃ n, pc.data.length = n := ⟨_, rfl⟩
          have zd : (bs pc.data).size = nd := (bs_size _).trans hnd
          rw [hnd] at hdl
          have HND := Lib.hid hnd
          have LB : (frontB m ++ ((m.pieces.take k).map pieceB).flatten).length ≤ 10000000000000 := by
            rw [List.length_append]
            have h6 : ((m.pieces.take k).map pieceB).length ≤ 1048576 := by simp; omega
            have := flat_le (l := (m.pieces.take k).map pieceB) (m := 1048584) (fun x hx => by
              obtain ⟨y, hy, rfl⟩ := List.mem_map.1 hx
              have := HSm.out.data y (List.mem_of_mem_take hy)
              rw [pieceB, List.length_append, List.length_append]
              show 4 + 4 + _ ≤ _
              omega)
            have h7 := Nat.mul_le_mul_left 1048584 h6
            omega
          have HPc := Lib.hid hpc
          have E0 : Hid (PcS w m (.slice (some ⟨bb, oo, none⟩) mp cp) wr.heap.size pc (wr.alloc (.cells #[.int .i64 pc.off, .string (bs pc.data)] 62))) :=
            Lib.hid (pcS (Row.new wr 62 _) (MbS.step hS (by omega) ((Below.refl _ _).alloc HS.out.size _)))
          have HOd : Hid (World.ownsRow (World.drew _) _ 5 1 u3 _ _) := Lib.hid (World.ownsRow.drew (World.ownsRow.alloc HO.out (.cells #[.int .i64 pc.off, .string (bs pc.data)] 62)))
          have HNE : Hid (u3.ownBlock ≠ some wr.heap.size) := fun e => by have := (HO.out.lt _ e).2; omega
          have HSZ : Hid (w.heap.size + 2 ≤ wr.heap.size + 1) := Nat.le_succ_of_le HS.out.size
          clear hpc hnd ha hc HO hS i0
          go_wp2_with fail
          clear m0 m1
          go_region_held3 (fun w' => PcS w m (.slice (some ⟨bb, oo, none⟩) mp cp) wr.heap.size pc w')
            (first | exact PcS.step ‹PcS w m _ _ _ _› HB3.out HG3.out HNE3.out | exact PcS.step ‹PcS w m _ _ _ _› HB2.out HG2.out HNE2.out | exact PcS.step ‹PcS w m _ _ _ _› HB1.out HG1.out HNE.out | exact PcS.drew E0.out)
            (first
              | (refine step_apps HO2.out (by rfl) _ _ (by rfl) (by rfl) pc.data (by rfl) (Nat.le_trans (Nat.le_trans (by rw [dsize]; exact HSZ.out) HB1.out.size) HB2.out.size) (by have := HND.out; omega) ?_; intro v3 w3 ho3 hb3 hg3; have HO3 := Lib.hid ho3; have HB3 := Lib.hid hb3; have HG3 := Lib.hid hg3; clear ho3 hb3 hg3)
              | (go_at_call 20; refine (call_half (w.heap.size + 2) _ _ _ nd _ HO1.out (Nat.le_trans (by rw [dsize]; exact HSZ.out) HB1.out.size) (by omega)).mono ?_; rintro e w2 ⟨v2, rfl, ho2, hb2, hg2⟩; rw [← List.map_append] at ho2; have HNE3 : Hid (v2.ownBlock ≠ some wr.heap.size) := (hg2 _ (Nat.lt_of_lt_of_le (by rw [dsize]; exact Nat.lt_succ_self _) HB1.out.size) HNE2.out).2; have HO2 := Lib.hid ho2; have HB2 := Lib.hid hb2; have HG2 := Lib.hid hg2.rest; clear ho2 hb2 hg2)
              | (go_at_call 20; refine (call_half (w.heap.size + 2) _ _ _ pc.off _ HOd.out (by rw [dsize]; exact HSZ.out) (by omega)).mono ?_; rintro e w1 ⟨v1, rfl, ho1, hb1, hg1⟩; rw [← List.map_append] at ho1; have HNE2 : Hid (v1.ownBlock ≠ some wr.heap.size) := (hg1 _ (by rw [dsize]; omega) HNE.out).2; have HO1 := Lib.hid ho1; have HB1 := Lib.hid hb1; have HG1 := Lib.hid hg1.rest; clear ho1 hb1 hg1))
          have HM3 := Lib.hid (PcS.mb ‹PcS w m _ _ _ w3›)
          have HO4 : Hid (Own (w.heap.size + 2) w3 v3 (frontB m ++ ((m.pieces.take (k + 1)).map pieceB).flatten)) := by
            have e : frontB m ++ ((m.pieces.take (k + 1)).map pieceB).flatten = frontB m ++ ((m.pieces.take k).map pieceB).flatten ++ halfB pc.off ++ halfB nd ++ pc.data := by
              rw [List.take_add_one, HPc.out, ← HND.out]
              simp [pieceB]
            show World.ownsRow _ _ _ _ _ _ _
            rw [e]
            have h := HO3.out
            rw [List.length_append, List.length_append, List.length_append]
            exact h
          clear HO1 HB1 HG1 HO2 HB2 HG2 HO3 HB3 HG3 HOd E0
          go_wp2
          go_roundw
          case rel => exact ⟨k + 1, by go_num, by omega, HM3.out, HO4.out⟩
          case measure => simp [RowKit.intOf]; omega
        · obtain rfl : k = mp := by omega
          have HI : Hid (Own (w.heap.size + 2) wr u3 (innerB m)) := by
            have h := HO.out
            rw [List.take_of_length_le (by have := HM.out; omega)] at h
            exact h
          have LI : (innerB m).length ≤ 10000000000000 := by
            rw [innerB, List.length_append]
            have h6 : (m.pieces.map pieceB).length ≤ 1048576 := by simp; have := HM.out; omega
            have := flat_le (l := m.pieces.map pieceB) (m := 1048584) (fun x hx => by
              obtain ⟨y, hy, rfl⟩ := List.mem_map.1 hx
              have := HSm.out.data y hy
              rw [pieceB, List.length_append, List.length_append]
              show 4 + 4 + _ ≤ _
              omega)
            have h7 := Nat.mul_le_mul_left 1048584 h6
            omega
          have LP : 0 < (innerB m).length := by
            rw [innerB, frontB, List.length_append, List.length_append, List.length_append, HN.out]
            show 0 < 20 + _ + _ + _
            omega
          obtain ⟨s, hs⟩ : ∃ s, sumOnB 0 (innerB m) = s := ⟨_, rfl⟩
          have s0 : 0 ≤ s := by rw [← hs, sumOnB, bits_xor]; exact bI_lo _
          have s1 : s < 4294967296 := by rw [← hs, sumOnB, bits_xor]; exact bI_hi _
          have HSs := Lib.hid hs
          have HP1 := Lib.hid (HP.out.below hS.box.2)
          have HBk := Lib.hid hS.box.2
          clear hs HO hS
          go_wp2_with (first
            | (go_at_call 41; refine (call_sum _ _ _ (bytes_own HI.out LP).2.1 (by omega) HP1.out).mono ?_; rintro e w1 ⟨rfl, rfl⟩; rw [HSs.out])
            | (go_at_call 20; refine (call_half (w.heap.size + 2) _ _ _ s _ HI.out HS.out.size (by omega)).mono ?_; rintro e w1 ⟨v1, rfl, ho1, hb1, hg1⟩; rw [← List.map_append] at ho1; have HO1 := Lib.hid ho1; have HB1 := Lib.hid hb1; clear ho1 hb1 hg1))
          go_ret
          have e : memberB m = innerB m ++ halfB s := by rw [memberB, HSs.out]
          refine ⟨_, rfl, ?_, HBk.out.trans (HB1.out.mono (by omega))⟩
          rw [e, List.length_append]
          exact own_mono HO1.out (by omega)
end Go.Proofs.YtlecpjfggoehdaaGreatDoor.Ar
