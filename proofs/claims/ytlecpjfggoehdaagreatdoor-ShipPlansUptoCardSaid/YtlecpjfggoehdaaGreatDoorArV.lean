
/- Archive: what is known of the members ahead, the program's. -/
import Derived.Test.YtlecpjfggoehdaaGreatDoorArU
import Derived.Test.YtlecpjfggoehdaaGreatDoorArW
import Derived.BigQuiet
import Derived.IntWalk
set_option linter.unusedVariables false
set_option linter.unusedSimpArgs false
set_option maxRecDepth 100000
namespace Go.Proofs.YtlecpjfggoehdaaGreatDoor.Ar
open Go.RowKit Go.Sort Go.Lib Go.Proofs.YtlecpjfggoehdaaGreatDoor.Rs

theorem MapI.drew {w : World} {b n : Nat} {f : List UInt8 → Int} (h : MapI w b n f) : MapI w.drew b n f := h.kept rfl
/-- A list's three blocks: the struct, the map of kinds, the map of links. -/
structure LstV (w : World) (lo B b1 b2 n : Nat) (vl : Value) (last : Option (List (List UInt8))) (fk fl : List UInt8 → Int) : Prop where
  row : Row w B 94 [vl, .map (some b1), .map (some b2)]
  last : NmV w vl last
  kinds : MapI w b1 n fk
  links : MapI w b2 n fl
  lo1 : lo ≤ b1
  lo2 : lo ≤ b2
  loB : lo ≤ B
  ne : b1 ≠ b2
theorem LstV.below {w w' : World} {lo B b1 b2 n : Nat} {vl : Value} {last : Option (List (List UInt8))} {fk fl : List UInt8 → Int} (h : LstV w lo B b1 b2 n vl last fk fl) (hb : Below w.heap.size w w') : LstV w' lo B b1 b2 n vl last fk fl :=
  ⟨h.row.below hb h.row.lt, h.last.keep (keeps_below hb), h.kinds.kept (hb.block _ h.kinds.lt), h.links.kept (hb.block _ h.links.lt), h.lo1, h.lo2, h.loB, h.ne⟩

theorem MapI.mono {w : World} {b n n' : Nat} {f : List UInt8 → Int} (h : MapI w b n f) (hn : n ≤ n') : MapI w b n' f := by
  obtain ⟨D, h, hf⟩ := h
  exact ⟨D, h.mono hn, hf⟩
theorem MapI.no_cell {w : World} {b n : Nat} {f : List UInt8 → Int} (h : MapI w b n f) (j : Nat) : w.cell? ⟨b, j, none⟩ = none := by
  obtain ⟨D, ⟨es, clock, hb, _⟩, _⟩ := h
  simp [World.cell?, hb]
theorem MapI.ne_cell {w : World} {b n : Nat} {f : List UInt8 → Int} (h : MapI w b n f) {B j : Nat} {v : Value} (hc : w.cell? ⟨B, j, none⟩ = some v) : B ≠ b := fun e => by
  subst e
  rw [h.no_cell j] at hc
  cases hc
/-- one of the two maps has turned: the links -/
theorem LstV.links' {w w' : World} {lo B b1 b2 n n' : Nat} {vl : Value} {last : Option (List (List UInt8))} {fk fl fl' : List UInt8 → Int} (h : LstV w lo B b1 b2 n vl last fk fl) (hm : MapI w' b2 n' fl') (hg : w.grownBy w' (some b2)) (hn : n ≤ n') :
    LstV w' lo B b1 b2 n' vl last fk fl' := by
  have hB : B ≠ b2 := h.links.ne_cell (h.row.cell 0)
  refine ⟨(hg.block B h.row.lt (by simpa using hB)).trans h.row, ?_, (h.kinds.kept (hg.block b1 h.kinds.lt (by simpa using h.ne))).mono hn, hm, h.lo1, h.lo2, h.loB, h.ne⟩
  cases last with
  | none => exact h.last
  | some l =>
    obtain ⟨B', c, e, hc, hs⟩ := h.last
    exact ⟨B', c, e, hc, fun j s hj => hg.cell (a := ⟨B', j, none⟩) (hs j s hj) (by simpa using h.links.ne_cell (hs j s hj))⟩
/-- .. the kinds -/
theorem LstV.kinds' {w w' : World} {lo B b1 b2 n n' : Nat} {vl : Value} {last : Option (List (List UInt8))} {fk fk' fl : List UInt8 → Int} (h : LstV w lo B b1 b2 n vl last fk fl) (hm : MapI w' b1 n' fk') (hg : w.grownBy w' (some b1)) (hn : n ≤ n') :
    LstV w' lo B b1 b2 n' vl last fk' fl := by
  have hB : B ≠ b1 := h.kinds.ne_cell (h.row.cell 0)
  refine ⟨(hg.block B h.row.lt (by simpa using hB)).trans h.row, ?_, hm, (h.links.kept (hg.block b2 h.links.lt (by simpa using Ne.symm h.ne))).mono hn, h.lo1, h.lo2, h.loB, h.ne⟩
  cases last with
  | none => exact h.last
  | some l =>
    obtain ⟨B', c, e, hc, hs⟩ := h.last
    exact ⟨B', c, e, hc, fun j s hj => hg.cell (a := ⟨B', j, none⟩) (hs j s hj) (by simpa using h.kinds.ne_cell (hs j s hj))⟩

theorem call_newList (w : World) :
    Calls Tryz.prog 19 #[] w fun e w' => ∃ B b1 b2, e = .returned (.pointer (some ⟨B, 0, none⟩)) ∧ LstV w' w.heap.size B b1 b2 0 (.slice none 0 0) none (fun _ => 0) (fun _ => 0) ∧ Below w.heap.size w w' := by
  have hmm := @run_makeMap Tryz.prog
  go_enter Tryz.func19, Tryz.ntmps19
  go_wp2
  go_ret
  generalize hc : (Obj.cells #[Value.slice none 0 0, Value.map (some w.heap.size), Value.map (some (w.heap.size + 1))] 94) = oc
  have k1 := MapI.made w
  have k2 : MapI ((w.alloc (.map #[] 0)).alloc (.map #[] 0)) w.heap.size 0 (fun _ => 0) := k1.kept ((below_alloc1 _ _).block _ k1.lt)
  have k3 : MapI (((w.alloc (.map #[] 0)).alloc (.map #[] 0)).alloc oc) w.heap.size 0 (fun _ => 0) := k2.kept ((below_alloc1 _ _).block _ k2.lt)
  have q1 := MapI.made (w.alloc (.map #[] 0))
  rw [alloc_size] at q1
  have q2 : MapI (((w.alloc (.map #[] 0)).alloc (.map #[] 0)).alloc oc) (w.heap.size + 1) 0 (fun _ => 0) := q1.kept ((below_alloc1 _ _).block _ q1.lt)
  have r1 := Row.new ((w.alloc (.map #[] 0)).alloc (.map #[] 0)) 94 [.slice none 0 0, .map (some w.heap.size), .map (some (w.heap.size + 1))]
  rw [alloc_size, alloc_size] at r1
  refine ⟨w.heap.size + 1 + 1, w.heap.size, w.heap.size + 1, rfl, ⟨?_, rfl, k3, q2, by omega, by omega, by omega, by omega⟩, (below_alloc2 w _ _).alloc (by rw [alloc_size, alloc_size]; omega) _⟩
  rw [← hc]
  exact r1

section
variable {ops : Array Oper} {o : Oper} {a : Act} {K : Act → World → Prop} {Q : Exit → Act → World → Prop} {E : Prop} {w : World} {b n : Nat} {f : List UInt8 → Int} {key : List UInt8}
/-- m[k], at a step of a region that draws -/
theorem step_look (hM : MapI w b n f) (hgd : o.guard = none) (mm x : Operand) (ho : o.op = .lookup 45 mm x false) (hm : a.eval mm = .map (some b)) (hx : a.eval x = .string (bs key)) (hk : key.length ≤ 1048576)
    (h : K (a.put o.dst (.int .i64 (f key))) w) : if Region.wanted o (yielded ops a.tmps) = true then Oper.wp Tryz.prog o a w K Q else E := by
  have hw : Region.wanted o (yielded ops a.tmps) = true := by simp [Region.wanted, hgd]
  rw [if_pos hw]
  have hr := hM.look hk
  unfold Oper.wp execOp
  simp only [ho, hm, hx, hr, Sem.run_bind, Sem.run_pure, Result.andThen_ok]
  exact h
/-- m[k] = v, at a step of a region that draws -/
theorem step_put (hM : MapI w b n f) (hgd : o.guard = none) (mm x y : Operand) (ho : o.op = .mapUpdate 45 mm x y) (hm : a.eval mm = .map (some b)) (hx : a.eval x = .string (bs key)) (z : Int) (hy : a.eval y = .int .i64 z) (hk : key.length ≤ 1048576) (hn : n < 1000000) (hz : I64 z)
    (h : ∀ w', MapI w' b (n + 1) (fun q => if q = key then z else f q) → w.grownBy w' (some b) → K (a.put o.dst undef) w') : if Region.wanted o (yielded ops a.tmps) = true then Oper.wp Tryz.prog o a w K Q else E := by
  have hw : Region.wanted o (yielded ops a.tmps) = true := by simp [Region.wanted, hgd]
  rw [if_pos hw]
  obtain ⟨w', hr, h1, h2⟩ := hM.put hk hn z hz
  unfold Oper.wp execOp
  simp only [ho, hm, hx, hy, hr, Sem.run_bind, Sem.run_pure, Result.andThen_ok]
  exact h w' h1 h2
end
/-- A world of a class. -/
structure Wd (S : World → Prop) where
  val : World
  ok : S val
/-- A region that draws its order, walked once, in a class of worlds of one's own. -/
theorem wp_region_class {P : Program} {id : Nat} {Q : Exit → Act → World → Prop} {a : Act} {w : World} {l : List Oper} (S : World → Prop) (hm : P.follows .mixedOrders = true) (hB : Region.lexB .any l.toArray = true) (hS : S w.drew)
    (h : wpQuiet P l.toArray (fun w' => ∃ x : Wd S, w' = x.val) (fun a' => ∀ w', (∃ x : Wd S, w' = x.val) → Q .normal a' w') l a) : (Code.region id l.toArray true).wp P Q a w :=
  wp_region_quiet (C := fun w' => ∃ x : Wd S, w' = x.val) hm hB ⟨⟨_, hS⟩, rfl⟩ (by simpa using h)
/-- what region 2 of the link's check keeps -/
abbrev C3S (w0 : World) (m : Mb) (vp : Value) (lo B b1 b2 n : Nat) (vl : Value) (last : Option (List (List UInt8))) (fk fl : List UInt8 → Int) (z : Int) (w' : World) : Prop :=
  w'.cell? ⟨B, 1, none⟩ = some (.map (some b1)) ∧ w'.cell? ⟨B, 2, none⟩ = some (.map (some b2)) ∧ w'.cell? ⟨w0.heap.size, 2, none⟩ = some (.string (bs m.link)) ∧ w'.cell? ⟨w0.heap.size, 0, none⟩ = some (.int .i64 m.kind) ∧ w'.cell? ⟨w0.heap.size, 1, none⟩ = some (.string (bs m.path)) ∧
  w'.cell? ⟨w0.heap.size, 3, none⟩ = some (.int .i64 m.size) ∧ w'.cell? ⟨w0.heap.size, 4, none⟩ = some vp ∧
  (Instr.lookup 45 (.map (some b1)) (.string (bs m.link)) false).run Tryz.prog w' = .ok (.int .i64 (fk m.link)) w' ∧ (Instr.lookup 45 (.map (some b2)) (.string (bs m.link)) false).run Tryz.prog w' = .ok (.int .i64 z) w' ∧
  Hid (LstV w' lo B b1 b2 n vl last fk fl ∧ Row w' w0.heap.size 58 (mbCells m vp) ∧ w0.grownBy w' (some b2) ∧ MbV w' m vp ∧ fl m.link = z)
theorem c3S {z : Int} {w0 w' : World} {m : Mb} {vp : Value} {lo B b1 b2 n : Nat} {vl : Value} {last : Option (List (List UInt8))} {fk fl : List UInt8 → Int} (hk : m.link.length ≤ 1048576) (h : LstV w' lo B b1 b2 n vl last fk fl) (hr : Row w' w0.heap.size 58 (mbCells m vp)) (hg : w0.grownBy w' (some b2)) (hv : MbV w' m vp) (hz : fl m.link = z) :
    C3S w0 m vp lo B b1 b2 n vl last fk fl z w' := ⟨h.row.cell 1, h.row.cell 2, hr.cell 2, hr.cell 0, hr.cell 1, hr.cell 3, hr.cell 4, h.kinds.look hk, by rw [← hz]; exact h.links.look hk, Lib.hid ⟨h, hr, hg, hv, hz⟩⟩
theorem grown_below {w0 w w' : World} {row : Option Nat} (h : w0.grownBy w row) (hb : Below w.heap.size w w') : w0.grownBy w' row :=
  ⟨hb.os.trans h.os, hb.tape.trans h.tape, hb.output.trans h.output, Nat.le_trans h.size hb.size, fun k hk hne => (hb.block k (Nat.lt_of_lt_of_le hk h.size)).trans (h.block k hk hne)⟩
theorem C3S.step {z : Int} {w0 w' w1 : World} {m : Mb} {vp : Value} {lo B b1 b2 n : Nat} {vl : Value} {last : Option (List (List UInt8))} {fk fl : List UInt8 → Int} (h : C3S w0 m vp lo B b1 b2 n vl last fk fl z w') (hk : m.link.length ≤ 1048576) (hb : Below w'.heap.size w' w1) : C3S w0 m vp lo B b1 b2 n vl last fk fl z w1 := by
  obtain ⟨h1, h2, h3, h4, h5⟩ := h.2.2.2.2.2.2.2.2.2.out
  exact c3S hk (h1.below hb) (h2.below hb h2.lt) (grown_below h3 hb) (h4.keep (keeps_below hb)) h5
theorem C3S.mb {z : Int} {w0 w' : World} {m : Mb} {vp : Value} {lo B b1 b2 n : Nat} {vl : Value} {last : Option (List (List UInt8))} {fk fl : List UInt8 → Int} (h : C3S w0 m vp lo B b1 b2 n vl last fk fl z w') : MbV w' m vp := h.2.2.2.2.2.2.2.2.2.out.2.2.2.1
theorem below_drew (w : World) : Below w.heap.size w w.drew := ⟨rfl, rfl, rfl, Nat.le_refl _, fun _ _ => rfl⟩

set_option maxHeartbeats 4000000 in
/-- a further name of a file -/
theorem call_check3 (m : Mb) (vp : Value) (w : World) (hv : MbV w m vp) (hs : MbSm m) {lo B b1 b2 n : Nat} {vl : Value} {last : Option (List (List UInt8))} {fk fl : List UInt8 → Int}
    (hl : LstV w lo B b1 b2 n vl last fk fl) (hn : n < 1000000) (hf : ∀ q, 0 ≤ fl q ∧ fl q ≤ 1000000) :
    Calls Tryz.prog 68 #[.pointer (some ⟨B, 0, none⟩), .agg (mbCells m vp).toArray] w fun e w' => e = .returned (.bool (bareB m && (decide (fk m.link = 1) && decide (fl m.link + 1 < 100)))) ∧
      LstV w' lo B b1 b2 (n + 1) vl last fk (updI fl m.link (fl m.link + 1)) ∧ w.grownBy w' (some b2) := by
  have B1 := mbS (N := 1) (Box.new w 58 (mbCells m vp)) (by show _ ≤ (w.alloc _).heap.size; rw [alloc_size]; omega)
  have HB := Lib.hid B1
  have el := bs_toList m.link
  have HV := Lib.hid (hv.keep (keeps_alloc w (.cells (mbCells m vp).toArray 58)))
  have HSm := Lib.hid hs
  have HL := Lib.hid (hl.below (below_alloc1 w (.cells (mbCells m vp).toArray 58)))
  obtain ⟨ap, mp, cp, rfl⟩ : ∃ a m' c, vp = .slice a m' c := by obtain ⟨a, b, o, c, h, _⟩ := hv.pieces; exact ⟨_, _, _, h⟩
  simp only [mbCells] at B1 HV HL ⊢
  obtain ⟨f0, f1⟩ := hf m.link
  have hlt := HL.out.row.lt
  have hBlt : B < w.heap.size := hl.row.lt
  have hb2lt : b2 < w.heap.size := hl.links.lt
  have hneB : B ≠ b2 := fun e => by
    obtain ⟨D, ⟨es, clock, hb, _⟩, _⟩ := hl.links
    have h' : w.heap[B]? = some (.cells _ 94 (0, 0)) := hl.row
    rw [e] at h'
    rw [hb] at h'
    cases h'
  have r1 := HL.out.row.cell 1
  have r2 := HL.out.row.cell 2
  have e2 := HB.out.2.2.1
  have HLk := Lib.hid HL.out.links.drew
  clear hv hs hl
  go_enter Tryz.func68, Tryz.ntmps68
  go_wp2_with fail
  have hlk := HLk.out.look HSm.out.link
  obtain ⟨w2, hput, hm2, hg2⟩ := HLk.out.put HSm.out.link hn (fl m.link + 1) ⟨by omega, by omega⟩
  have hwr : IntKind.i64.wrap (fl m.link + 1) = fl m.link + 1 := IntWalk.i64_in _ (by omega)
  have HM2 := Lib.hid hm2
  have HG2 := Lib.hid hg2
  clear hm2 hg2
  go_region_held3 (fun w' => w'.cell? ⟨B, 1, none⟩ = some (.map (some b1)) ∧ w'.cell? ⟨B, 2, none⟩ = some (.map (some b2)) ∧ w'.cell? ⟨w.heap.size, 2, none⟩ = some (.string (bs m.link)))
    (first | exact ⟨r1, r2, e2⟩ | exact ⟨(HG2.out.cell (a := ⟨B, 1, none⟩) r1 (by simpa using hneB)), (HG2.out.cell (a := ⟨B, 2, none⟩) r2 (by simpa using hneB)), (HG2.out.cell (a := ⟨w.heap.size, 2, none⟩) e2 (by simp; omega))⟩)
    (first | fail)
  have hgw : w.grownBy w2 (some b2) := by
    have h := HG2.out
    have hs := h.size
    refine ⟨h.os, h.tape, h.output, ?_, fun k hk hne => ?_⟩
    · refine Nat.le_trans ?_ hs
      show _ ≤ (w.alloc _).heap.size
      rw [alloc_size]; omega
    · refine (h.block k ?_ hne).trans ?_
      · show k < (w.alloc _).heap.size
        rw [alloc_size]; omega
      · exact (below_alloc1 w _).block k hk
  have hls : LstV w2 lo B b1 b2 (n + 1) vl last fk (updI fl m.link (fl m.link + 1)) := LstV.links' (HL.out.below (below_drew _)) HM2.out HG2.out (Nat.le_succ n)
  have hkk : Keeps (w.alloc (.cells (mbCells m (.slice ap mp cp)).toArray 58)).drew w2 := fun b o v hc => HG2.out.cell (a := ⟨b, o, none⟩) hc (by simpa using HLk.out.ne_cell hc)
  have hbr : Row w2 w.heap.size 58 (mbCells m (.slice ap mp cp)) := by
    have h := HB.out.box.1.drew
    exact (HG2.out.block w.heap.size h.lt (by simp; omega)).trans h
  have hmv : MbV w2 m (.slice ap mp cp) := (HV.out.keep (keeps_below (below_drew _))).keep hkk
  obtain ⟨x, hx⟩ : ∃ x, fl m.link + 1 = x := ⟨_, rfl⟩
  have hu : updI fl m.link (fl m.link + 1) m.link = x := (if_pos rfl).trans hx
  have hC := c3S HSm.out.link hls hbr hgw hmv hu
  have HC := Lib.hid hC
  clear hgw hls hkk hbr hmv HM2 HG2 hlk hput HLk HL HB HV B1 r1 r2 e2 hlt hu hwr
  have HXx := Lib.hid hx
  rw [hx]
  clear hx
  obtain ⟨fl2, hfl⟩ : ∃ g, updI fl m.link (fl m.link + 1) = g := ⟨_, rfl⟩
  rw [hfl] at HC
  have HFl := Lib.hid hfl
  clear hfl
  have hC1 := C3S.step HC.out HSm.out.link (below_drew _)
  have HC1 := Lib.hid hC1
  haveI : Nonempty (Wd (C3S w m (.slice ap mp cp) lo B b1 b2 (n + 1) vl last fk fl2 x)) := ⟨⟨_, hC1⟩⟩
  have k1 : ∀ y : Wd (C3S w m (.slice ap mp cp) lo B b1 b2 (n + 1) vl last fk fl2 x), y.val.cell? ⟨B, 1, none⟩ = some (.map (some b1)) := fun y => y.2.1
  have k2 : ∀ y : Wd (C3S w m (.slice ap mp cp) lo B b1 b2 (n + 1) vl last fk fl2 x), y.val.cell? ⟨B, 2, none⟩ = some (.map (some b2)) := fun y => y.2.2.1
  have k3 : ∀ y : Wd (C3S w m (.slice ap mp cp) lo B b1 b2 (n + 1) vl last fk fl2 x), y.val.cell? ⟨w.heap.size, 2, none⟩ = some (.string (bs m.link)) := fun y => y.2.2.2.1
  have k4 : ∀ y : Wd (C3S w m (.slice ap mp cp) lo B b1 b2 (n + 1) vl last fk fl2 x), y.val.cell? ⟨w.heap.size, 0, none⟩ = some (.int .i64 m.kind) := fun y => y.2.2.2.2.1
  have k5 : ∀ y : Wd (C3S w m (.slice ap mp cp) lo B b1 b2 (n + 1) vl last fk fl2 x), y.val.cell? ⟨w.heap.size, 1, none⟩ = some (.string (bs m.path)) := fun y => y.2.2.2.2.2.1
  have k6 : ∀ y : Wd (C3S w m (.slice ap mp cp) lo B b1 b2 (n + 1) vl last fk fl2 x), y.val.cell? ⟨w.heap.size, 3, none⟩ = some (.int .i64 m.size) := fun y => y.2.2.2.2.2.2.1
  have k7 : ∀ y : Wd (C3S w m (.slice ap mp cp) lo B b1 b2 (n + 1) vl last fk fl2 x), y.val.cell? ⟨w.heap.size, 4, none⟩ = some (.slice ap mp cp) := fun y => y.2.2.2.2.2.2.2.1
  have k8 : ∀ y : Wd (C3S w m (.slice ap mp cp) lo B b1 b2 (n + 1) vl last fk fl2 x), (Instr.lookup 45 (.map (some b1)) (.string (bs m.link)) false).run Tryz.prog y.val = .ok (.int .i64 (fk m.link)) y.val := fun y => y.2.2.2.2.2.2.2.2.1
  have k9 : ∀ y : Wd (C3S w m (.slice ap mp cp) lo B b1 b2 (n + 1) vl last fk fl2 x), (Instr.lookup 45 (.map (some b2)) (.string (bs m.link)) false).run Tryz.prog y.val = .ok (.int .i64 x) y.val := fun y => y.2.2.2.2.2.2.2.2.2.1
  have fin : ∀ (y : Wd (C3S w m (.slice ap mp cp) lo B b1 b2 (n + 1) vl last fk fl2 x)), LstV y.val lo B b1 b2 (n + 1) vl last fk fl2 ∧ w.grownBy y.val (some b2) := fun y => by
    obtain ⟨h1, _, h3, _⟩ := y.2.2.2.2.2.2.2.2.2.2.out
    exact ⟨h1, h3⟩
  have HFin := Lib.hid fin
  clear fin hC hC1 HC
  cases hbr : bareB m with
  | false =>
    have HBr := Lib.hid hbr
    clear hbr
    go_wp2_with fail
    refine wp_region_class (fun w' => C3S w m (.slice ap mp cp) lo B b1 b2 (n + 1) vl last fk fl2 x w') (by kernel_rfl) (by kernel_rfl) HC1.out ?_
    repeat (first | go_big_quiet_skip | (go_big_quiet_want; go_big_quiet_op; first | go_big_quiet_on | go_big_quiet_call ((go_at_call 65; refine (call_bare m (.slice ap mp cp) _ (C3S.mb (Wd.ok _)) HSm.out).mono ?_; rintro e w1 ⟨rfl, hb1⟩; rw [HBr.out]; exact ⟨rfl, ⟨_, C3S.step (Wd.ok _) HSm.out.link hb1⟩, rfl⟩))))
    refine wpQuiet_nil ?_
    rintro _ ⟨y, rfl⟩
    obtain ⟨f1, f2⟩ := HFin.out y
    have F1 := Lib.hid f1
    have F2 := Lib.hid f2
    clear f1 f2
    go_wp2
    go_ret
    exact ⟨by first | (rw [HBr.out]; simp; done) | (simp; done), by rw [HFl.out]; exact F1.out, F2.out⟩
  | true =>
    have HBr := Lib.hid hbr
    clear hbr
    cases q1 : (fk m.link == 1) with
    | false =>
      have HQ := Lib.hid q1
      go_wp2_with fail
      refine wp_region_class (fun w' => C3S w m (.slice ap mp cp) lo B b1 b2 (n + 1) vl last fk fl2 x w') (by kernel_rfl) (by kernel_rfl) HC1.out ?_
      repeat (first | go_big_quiet_skip | (go_big_quiet_want; go_big_quiet_op; first | go_big_quiet_on | go_big_quiet_call ((go_at_call 65; refine (call_bare m (.slice ap mp cp) _ (C3S.mb (Wd.ok _)) HSm.out).mono ?_; rintro e w1 ⟨rfl, hb1⟩; rw [HBr.out]; exact ⟨rfl, ⟨_, C3S.step (Wd.ok _) HSm.out.link hb1⟩, rfl⟩))))
      refine wpQuiet_nil ?_
      rintro _ ⟨y, rfl⟩
      obtain ⟨f1, f2⟩ := HFin.out y
      have F1 := Lib.hid f1
      have F2 := Lib.hid f2
      clear f1 f2 q1
      go_wp2
      go_ret
      exact ⟨by have := HQ.out; rw [beq_eq_false_iff_ne] at this; first | (rw [HBr.out]; simp [this]; done) | (simp [this]; done), by rw [HFl.out]; exact F1.out, F2.out⟩
    | true =>
      have HQ := Lib.hid q1
      go_wp2_with fail
      refine wp_region_class (fun w' => C3S w m (.slice ap mp cp) lo B b1 b2 (n + 1) vl last fk fl2 x w') (by kernel_rfl) (by kernel_rfl) HC1.out ?_
      repeat (first | go_big_quiet_skip | (go_big_quiet_want; go_big_quiet_op; first | go_big_quiet_on | go_big_quiet_call ((go_at_call 65; refine (call_bare m (.slice ap mp cp) _ (C3S.mb (Wd.ok _)) HSm.out).mono ?_; rintro e w1 ⟨rfl, hb1⟩; rw [HBr.out]; exact ⟨rfl, ⟨_, C3S.step (Wd.ok _) HSm.out.link hb1⟩, rfl⟩))))
      refine wpQuiet_nil ?_
      rintro _ ⟨y, rfl⟩
      obtain ⟨f1, f2⟩ := HFin.out y
      have F1 := Lib.hid f1
      have F2 := Lib.hid f2
      clear f1 f2 q1
      go_wp2
      go_ret
      exact ⟨by have := HQ.out; rw [beq_iff_eq] at this; rw [HXx.out]; first | (rw [HBr.out]; simp [this]; done) | (simp [this]; done), by rw [HFl.out]; exact F1.out, F2.out⟩
end Go.Proofs.YtlecpjfggoehdaaGreatDoor.Ar
