
/- Archive: a member that comes next, the program's. -/
import Derived.Test.YtlecpjfggoehdaaGreatDoorArV
import Derived.Test.YtlecpjfggoehdaaGreatDoorArZ
import Derived.Test.YtlecpjfggoehdaaGreatDoorArS
import Derived.Laws.EntriesVeiled
import Derived.Deep.DeepCutAuto
set_option linter.unusedVariables false
set_option linter.unusedSimpArgs false
set_option maxRecDepth 100000
namespace Go.Proofs.YtlecpjfggoehdaaGreatDoor.Ar
open Go.RowKit Go.Sort Go.Lib Go.Proofs.YtlecpjfggoehdaaGreatDoor.Rs

/-- Apart from three blocks, what was there is as it was. -/
structure Touch (w w' : World) (B b1 b2 : Nat) : Prop where
  os : w'.os = w.os
  tape : w'.tape = w.tape
  output : w'.output = w.output
  size : w.heap.size ≤ w'.heap.size
  block : ∀ k, k < w.heap.size → k ≠ B → k ≠ b1 → k ≠ b2 → w'.heap[k]? = w.heap[k]?
theorem Touch.of_below {w w' : World} (hb : Below w.heap.size w w') (B b1 b2 : Nat) : Touch w w' B b1 b2 := ⟨hb.os, hb.tape, hb.output, hb.size, fun k hk _ _ _ => hb.block k hk⟩
theorem Touch.trans {a b c : World} {B b1 b2 : Nat} (h : Touch a b B b1 b2) (k : Touch b c B b1 b2) : Touch a c B b1 b2 :=
  ⟨k.os.trans h.os, k.tape.trans h.tape, k.output.trans h.output, Nat.le_trans h.size k.size, fun i hi n0 n1 n2 => (k.block i (Nat.lt_of_lt_of_le hi h.size) n0 n1 n2).trans (h.block i hi n0 n1 n2)⟩
theorem Touch.grown1 {w w' : World} {b1 : Nat} (h : w.grownBy w' (some b1)) (B b2 : Nat) : Touch w w' B b1 b2 := ⟨h.os, h.tape, h.output, h.size, fun k hk _ n1 _ => h.block k hk (by simpa using n1)⟩
theorem Touch.grown2 {w w' : World} {b2 : Nat} (h : w.grownBy w' (some b2)) (B b1 : Nat) : Touch w w' B b1 b2 := ⟨h.os, h.tape, h.output, h.size, fun k hk _ _ n2 => h.block k hk (by simpa using n2)⟩
theorem Touch.set (w : World) (B j : Nat) (v : Value) (b1 b2 : Nat) : Touch w (w.setCell ⟨B, j, none⟩ v) B b1 b2 :=
  ⟨rfl, rfl, rfl, by simp [World.setCell], fun k _ n0 _ _ => Below.heap_setCell w ⟨B, j, none⟩ v k n0⟩
theorem Touch.below {w w' : World} {B b1 b2 lo : Nat} (h : Touch w w' B b1 b2) (h0 : lo ≤ B) (h1 : lo ≤ b1) (h2 : lo ≤ b2) (hs : lo ≤ w.heap.size) : Below lo w w' :=
  ⟨h.os, h.tape, h.output, h.size, fun k hk => h.block k (by omega) (by omega) (by omega) (by omega)⟩
theorem Row.ne_map {w : World} {C T : Nat} {cur : List Value} (hr : Row w C T cur) {b n : Nat} {f : List UInt8 → Int} (hM : MapI w b n f) : C ≠ b := fun e => by
  subst e
  obtain ⟨D, ⟨es, clock, hb, _⟩, _⟩ := hM
  have h' : w.heap[C]? = some (.cells cur.toArray T (0, 0)) := hr
  rw [hb] at h'
  cases h'
theorem Touch.row {w w' : World} {lo B b1 b2 n : Nat} {vl : Value} {last : Option (List (List UInt8))} {fk fl : List UInt8 → Int} (h : Touch w w' B b1 b2) (hl : LstV w lo B b1 b2 n vl last fk fl) {C T : Nat} {cur : List Value} (hr : Row w C T cur) (hT : T ≠ 94) : Row w' C T cur :=
  (h.block C hr.lt (row_ne hr hl.row hT) (Row.ne_map hr hl.kinds) (Row.ne_map hr hl.links)).trans hr
theorem lst_ne_str {w : World} {lo B b1 b2 n : Nat} {vl : Value} {last : Option (List (List UInt8))} {fk fl : List UInt8 → Int} (hl : LstV w lo B b1 b2 n vl last fk fl) {b o : Nat} {s : ByteArray} (hc : w.cell? ⟨b, o, none⟩ = some (.string s)) : b ≠ B := fun e => by
  subst e
  have h := hl.last
  rw [hl.row.cell] at hc
  match o, hc with
  | 0, hc =>
    cases hc
    cases last with
    | none => cases h
    | some l => obtain ⟨_, _, e, _⟩ := h; cases e
  | 1, hc => cases hc
  | 2, hc => cases hc
  | o + 3, hc => simp at hc
theorem Touch.names {w w' : World} {lo B b1 b2 n : Nat} {vl : Value} {last : Option (List (List UInt8))} {fk fl : List UInt8 → Int} (h : Touch w w' B b1 b2) (hl : LstV w lo B b1 b2 n vl last fk fl) {v : Value} {o : Option (List (List UInt8))} (hv : NmV w v o) : NmV w' v o := by
  cases o with
  | none => exact hv
  | some l =>
    obtain ⟨B', c, e, hc, hs⟩ := hv
    refine ⟨B', c, e, hc, fun j s hj => ?_⟩
    have h1 := hs j s hj
    exact (World.cell?_of_block (a := ⟨B', j, none⟩) (h.block B' (World.block_lt_of_cell? w _ h1) (lst_ne_str hl h1) (hl.kinds.ne_cell h1) (hl.links.ne_cell h1))).trans h1
/-- the names of the last member, laid -/
theorem LstV.last' {w : World} {lo B b1 b2 n : Nat} {vl : Value} {last : Option (List (List UInt8))} {fk fl : List UInt8 → Int} (h : LstV w lo B b1 b2 n vl last fk fl) {v : Value} {nm : Option (List (List UInt8))} (hv : NmV w v nm) :
    LstV (w.setCell ⟨B, 0, none⟩ v) lo B b1 b2 n v nm fk fl :=
  ⟨h.row.set 0 v, (Touch.set w B 0 v b1 b2).names h hv, h.kinds.kept (Below.heap_setCell w ⟨B, 0, none⟩ v b1 (Ne.symm (h.kinds.ne_cell (h.row.cell 0)))), h.links.kept (Below.heap_setCell w ⟨B, 0, none⟩ v b2 (Ne.symm (h.links.ne_cell (h.row.cell 0)))), h.lo1, h.lo2, h.loB, h.ne⟩

theorem parentAt_le (p : List UInt8) : ∀ k, (parentAt p k).length ≤ p.length
  | 0 => by simp [parentAt]
  | k + 1 => by
    rw [parentAt]
    split
    · rw [List.length_take]; omega
    · exact parentAt_le p k
/-- strings.Join at "/" -/
theorem call_join (ns : List (List UInt8)) (k B c : Nat) (w : World) (hcells : ∀ j s, ns[j]? = some s → w.cell? ⟨B, j, none⟩ = some (.string (bs s))) (h0 : 0 < k) (hk : k < ns.length) (hc : ns.length ≤ c) (hn : ns.length ≤ 1048577) (hj : (Lib.join (ns.take k) [47]).length ≤ 1048576) :
    Calls Tryz.prog 44 #[.slice (some ⟨B, 0, none⟩) k c, .string ⟨#[47]⟩] w fun e w' => e = .returned (.string (bs (Lib.join (ns.take k) [47]))) ∧ Below w.heap.size w w' := by
  have hl : ((ns.take k).map bs).length = k := by simp; omega
  have he : ((ns.take k).map bs).map (·.data.toList) = ns.take k := by
    rw [List.map_map]
    conv => rhs; rw [← List.map_id (ns.take k)]
    apply List.map_congr_left
    intro x _
    simp [bs]
  have h1 := Tryz.strings_Join B 0 c ((ns.take k).map bs) ⟨#[47]⟩ w (fun j x hx => by
      rw [Nat.zero_add]
      rw [List.getElem?_map, Option.map_eq_some_iff] at hx
      obtain ⟨s, hs, rfl⟩ := hx
      rw [List.getElem?_take] at hs
      split at hs
      · exact hcells j s hs
      · cases hs) (World.block_lt_of_cell? w ⟨B, 0, none⟩ (hcells 0 _ (List.getElem?_eq_getElem (by omega)))) (by rw [hl]; omega) (by rw [hl]; omega) (by rw [he]; show (Lib.join (ns.take k) [47]).length ≤ _; omega)
  rw [hl, he] at h1
  exact h1


def kpos (kind : Int) : Nat := if kind = 2 then 0 else if kind = 1 then 1 else if kind = 3 then 2 else 3
/-- what the loop over the checks knows -/
def LoopSt (w : World) (B b1 b2 : Nat) (fk fl : List UInt8 → Int) (m : Mb) (k : Nat) (wr : World) : Prop :=
  (k ≤ kpos m.kind ∧ Below w.heap.size w wr) ∨ (kpos m.kind < k ∧ kindOkP fk fl m = false ∧ Touch w wr B b1 b2)
theorem LoopSt.touch {w : World} {B b1 b2 : Nat} {fk fl : List UInt8 → Int} {m : Mb} {k : Nat} {wr : World} (h : LoopSt w B b1 b2 fk fl m k wr) : Touch w wr B b1 b2 := by
  rcases h with ⟨_, h⟩ | ⟨_, _, h⟩
  · exact Touch.of_below h _ _ _
  · exact h
theorem LoopSt.next {w : World} {B b1 b2 : Nat} {fk fl : List UInt8 → Int} {m : Mb} {k : Nat} {wr wr' : World} (h : LoopSt w B b1 b2 fk fl m k wr) (hne : kpos m.kind ≠ k) (hb : Below wr.heap.size wr wr') : LoopSt w B b1 b2 fk fl m (k + 1) wr' := by
  rcases h with ⟨h1, h2⟩ | ⟨h1, h2, h3⟩
  · exact .inl ⟨by omega, below_then h2 h2.size hb⟩
  · exact .inr ⟨by omega, h2, h3.trans (Touch.of_below hb _ _ _)⟩
theorem LoopSt.here {w : World} {B b1 b2 : Nat} {fk fl : List UInt8 → Int} {m : Mb} {k : Nat} {wr : World} (h : LoopSt w B b1 b2 fk fl m k wr) (he : kpos m.kind = k) : Below w.heap.size w wr := by
  rcases h with ⟨h1, h2⟩ | ⟨h1, h2, h3⟩
  · exact h2
  · omega
theorem LoopSt.last {w : World} {B b1 b2 : Nat} {fk fl : List UInt8 → Int} {m : Mb} {wr : World} (h : LoopSt w B b1 b2 fk fl m 3 wr) : kindOkP fk fl m = false := by
  rcases h with ⟨h1, h2⟩ | ⟨h1, h2, h3⟩
  · unfold kpos at h1
    unfold kindOkP
    by_cases e2 : m.kind = 2
    · rw [if_pos e2] at h1; omega
    · by_cases e1 : m.kind = 1
      · rw [if_neg e2, if_pos e1] at h1; omega
      · by_cases e3 : m.kind = 3
        · rw [if_neg e2, if_neg e1, if_pos e3] at h1; omega
        · rw [if_neg e2, if_neg e1, if_neg e3]
  · exact h2
def kc : Nat → Int
  | 0 => 2
  | 1 => 1
  | _ => 3
def fc : Nat → Nat
  | 0 => 64
  | 1 => 66
  | _ => 68
def checkRow : List Value := [.int .i64 2, .func (.func 64) #[] #[], .int .i64 1, .func (.func 66) #[] #[], .int .i64 3, .func (.func 68) #[] #[]]
theorem kc_ne {k : Nat} (hk : k < 3) {kind : Int} : kpos kind = k ↔ kc k = kind := by
  unfold kpos
  match k, hk with
  | 0, _ => show _ ↔ (2 : Int) = kind; split <;> (try split) <;> (try split) <;> simp_all <;> omega
  | 1, _ => show _ ↔ (1 : Int) = kind; split <;> (try split) <;> (try split) <;> simp_all <;> omega
  | 2, _ => show _ ↔ (3 : Int) = kind; split <;> (try split) <;> (try split) <;> simp_all <;> omega
def linksP (fl : List UInt8 → Int) (m : Mb) : List UInt8 → Int := if m.kind = 3 then updI fl m.link (fl m.link + 1) else fl
/-- a check has said yes -/
def Yes (w : World) (m : Mb) (vp : Value) (v5 : Value) (ns : List (List UInt8)) (lo B b1 b2 n : Nat) (vl : Value) (last : Option (List (List UInt8))) (fk fl : List UInt8 → Int) (wc : World) : Prop :=
  kindOkP fk fl m = true ∧ Touch w wc B b1 b2 ∧ Row wc w.heap.size 58 (mbCells m vp) ∧ NmV wc v5 (some ns) ∧ ∃ n', n' ≤ n + 1 ∧ LstV wc lo B b1 b2 n' vl last fk (linksP fl m)

/-- behind one check -/
def AfterC (w : World) (m : Mb) (vp v5 : Value) (ns : List (List UInt8)) (lo B b1 b2 n : Nat) (vl : Value) (last : Option (List (List UInt8))) (fk fl : List UInt8 → Int) (B3 z : Nat) (v64 : Value) (wc : World) : Prop :=
  (v64 = .bool true ∧ Yes w m vp v5 ns lo B b1 b2 n vl last fk fl wc) ∨ (v64 = .bool false ∧ Row wc B3 106 checkRow ∧ Row wc w.heap.size 58 (mbCells m vp) ∧ NmV wc v5 (some ns) ∧ LoopSt w B b1 b2 fk fl m (z + 1) wc)
theorem kindOk2 {fk fl : List UInt8 → Int} {m : Mb} (h : m.kind = 2) : kindOkP fk fl m = (bareB m && m.link.isEmpty) ∧ linksP fl m = fl := ⟨by rw [kindOkP, if_pos h], by rw [linksP, h]; rfl⟩
theorem kindOk1 {fk fl : List UInt8 → Int} {m : Mb} (h : m.kind = 1) : kindOkP fk fl m = (m.link.isEmpty && piecesB m.size m.pieces) ∧ linksP fl m = fl := ⟨by rw [kindOkP, h]; rfl, by rw [linksP, h]; rfl⟩
theorem kindOk3 {fk fl : List UInt8 → Int} {m : Mb} (h : m.kind = 3) : kindOkP fk fl m = (bareB m && (decide (fk m.link = 1) && decide (fl m.link + 1 < 100))) ∧ linksP fl m = updI fl m.link (fl m.link + 1) := ⟨by rw [kindOkP, h]; rfl, by rw [linksP, h]; rfl⟩
/-- a check that reads has answered -/
theorem afterRead {w : World} {m : Mb} {vp v5 : Value} {ns : List (List UInt8)} {lo B b1 b2 n : Nat} {vl : Value} {last : Option (List (List UInt8))} {fk fl : List UInt8 → Int} {B3 z : Nat} {W w4 : World} {r : Bool} (hl : LstV w lo B b1 b2 n vl last fk fl)
    (hb : Below w.heap.size w W) (hr : Row W B3 106 checkRow) (h51 : Row W w.heap.size 58 (mbCells m vp)) (hn : NmV W v5 (some ns)) (hk : kpos m.kind = z) (he : kindOkP fk fl m = r) (hl2 : linksP fl m = fl) (hb4 : Below W.heap.size W w4) :
    AfterC w m vp v5 ns lo B b1 b2 n vl last fk fl B3 z (.bool r) w4 := by
  have hb' := below_after hb hb4
  cases r with
  | true => exact .inl ⟨rfl, he, Touch.of_below hb' _ _ _, h51.below hb4 h51.lt, hn.keep (keeps_below hb4), n, Nat.le_succ n, by rw [hl2]; exact hl.below hb'⟩
  | false => exact .inr ⟨rfl, hr.below hb4 hr.lt, h51.below hb4 h51.lt, hn.keep (keeps_below hb4), .inr ⟨by omega, he, Touch.of_below hb' _ _ _⟩⟩
theorem afterLink {w : World} {m : Mb} {vp v5 : Value} {ns : List (List UInt8)} {lo B b1 b2 n : Nat} {vl : Value} {last : Option (List (List UInt8))} {fk fl : List UInt8 → Int} {B3 z : Nat} {W w4 : World} {r : Bool} (hl : LstV w lo B b1 b2 n vl last fk fl)
    (hb : Below w.heap.size w W) (hr : Row W B3 106 checkRow) (h51 : Row W w.heap.size 58 (mbCells m vp)) (hn : NmV W v5 (some ns)) (hk : kpos m.kind = z) (he : kindOkP fk fl m = r)
    (h4 : LstV w4 lo B b1 b2 (n + 1) vl last fk (linksP fl m)) (hg : W.grownBy w4 (some b2)) :
    AfterC w m vp v5 ns lo B b1 b2 n vl last fk fl B3 z (.bool r) w4 := by
  have hlW := hl.below hb
  have ht : Touch w w4 B b1 b2 := (Touch.of_below hb _ _ _).trans (Touch.grown2 hg B b1)
  have hg' := Touch.grown2 hg B b1
  have h51' := hg'.row hlW h51 (by decide)
  have hn' := hg'.names hlW hn
  cases r with
  | true => exact .inl ⟨rfl, he, ht, h51', hn', n + 1, Nat.le_refl _, h4⟩
  | false => exact .inr ⟨rfl, hg'.row hlW hr (by decide), h51', hn', .inr ⟨by omega, he, ht⟩⟩

set_option maxHeartbeats 8000000 in
theorem call_add (m : Mb) (vp : Value) (w : World) (hv : MbV w m vp) (hs : MbSm m) (hm : MaxL w) {lo B b1 b2 n : Nat} {vl : Value} {last : Option (List (List UInt8))} {fk fl : List UInt8 → Int}
    (hl : LstV w lo B b1 b2 n vl last fk fl) (hn : n < 100000) (hf : ∀ q, 0 ≤ fl q ∧ fl q ≤ 1000000) (hlast : ∀ l, last = some l → l.length ≤ 1048577) :
    Calls Tryz.prog 22 #[.pointer (some ⟨B, 0, none⟩), .agg (mbCells m vp).toArray] w fun e w' => e = .returned (.bool (addOk last fk fl m)) ∧ Touch w w' B b1 b2 ∧
      (addOk last fk fl m = true → ∃ vl' n', n' ≤ n + 2 ∧ LstV w' lo B b1 b2 n' vl' (namesB m.path) (updI fk m.path m.kind) (linksP fl m) ∧ ∀ b, vl'.ownBlock = some b → w.heap.size ≤ b) := by
  have B1 := mbS (N := 1) (Box.new w 58 (mbCells m vp)) (by show _ ≤ (w.alloc _).heap.size; rw [alloc_size]; omega)
  have B0 := Lib.hid B1
  have HV0 := Lib.hid hv
  have HV := Lib.hid (hv.keep (keeps_alloc w (.cells (mbCells m vp).toArray 58)))
  have HSm := Lib.hid hs
  have HMx := Lib.hid (hm.below (below_alloc1 w (.cells (mbCells m vp).toArray 58)))
  have HL0 := Lib.hid hl
  have HL := Lib.hid (hl.below (below_alloc1 w (.cells (mbCells m vp).toArray 58)))
  have HBx := Lib.hid (below_alloc1 w (.cells (mbCells m vp).toArray 58))
  have HLast := Lib.hid hlast
  have HF := Lib.hid hf
  have hBlt : B < w.heap.size := hl.row.lt
  obtain ⟨ap, mp, cp, rfl⟩ : ∃ a m' c, vp = .slice a m' c := by obtain ⟨a, b, o, c, h, _⟩ := hv.pieces; exact ⟨_, _, _, h⟩
  simp only [mbCells] at B1 HV HL HMx HBx ⊢
  have qe := fun (w : World) (a : Option Addr) (n c : Nat) => Lib.run_eql_slice_nil (P := Tryz.prog) w 92 9 a n c 0 0 Tryz.underlying92
  have qn := fun (w : World) (a : Option Addr) (n c : Nat) => run_neq_slice_nil_any (P := Tryz.prog) w 92 9 a n c 0 0 Tryz.underlying92
  clear hv hs hm hl hlast hf
  cases hnm : namesB m.path with
  | none =>
    have HNm := Lib.hid hnm
    have HA : Hid (addOk last fk fl m = false) := Lib.hid (by rw [addOk, hnm])
    clear hnm
    go_enter Tryz.func22, Tryz.ntmps22
    go_wp2_with (go_at_call 42; refine (call_names m.path HSm.out.path _ HMx.out).mono ?_; rintro e w1 ⟨⟨v1, rfl, hn1, _⟩, hb1⟩; rw [HNm.out] at hn1; obtain rfl := hn1; have HB1 := Lib.hid (HBx.out.trans (hb1.mono HBx.out.size)); clear hb1)
    go_ret
    exact ⟨by rw [HA.out]; rfl, Touch.of_below HB1.out _ _ _, fun h => by rw [HA.out] at h; cases h⟩
  | some ns =>
    have HNm := Lib.hid hnm
    obtain ⟨k, hk⟩ : ∃ k, ns.length = k + 1 := by
      have h := (names_some hnm).1
      have := List.length_pos_iff.2 (split47_ne m.path)
      rw [h] at this
      exact ⟨ns.length - 1, by omega⟩
    have hk2 : k ≤ 1048576 := by
      have h := (names_some hnm).1
      have h2 := split47_length m.path
      have h3 := (names_some hnm).2.2
      rw [h] at h2
      omega
    have HK := Lib.hid hk
    obtain ⟨J, hJ⟩ : ∃ J, Lib.join (ns.take k) [47] = J := ⟨_, rfl⟩
    have HJ := Lib.hid hJ
    have HJl : Hid (J.length ≤ 1048576) := Lib.hid (by
      have h := (parent_of hnm).1
      rw [hk, Nat.add_sub_cancel, hJ] at h
      rw [← h]
      exact Nat.le_trans (parentAt_le _ _) HSm.out.path)
    have HA : Hid (addOk last fk fl m = (orderOkP last ns && (upOkP fk ns && kindOkP fk fl m))) := Lib.hid (by rw [addOk, hnm])
    have HU : Hid (upOkP fk ns = (decide (k = 0) || decide (fk J = 2))) := Lib.hid (by rw [upOkP, hk, Nat.add_sub_cancel, hJ]; congr 1; rw [decide_eq_decide]; omega)
    clear hnm hk hJ
    go_enter Tryz.func22, Tryz.ntmps22
    go_upto_region 2 with (go_at_call 42; refine (call_names m.path HSm.out.path _ HMx.out).mono ?_; rintro e w1 ⟨⟨v1, rfl, hn1, hfr⟩, hb1⟩; rw [HNm.out] at hn1; obtain ⟨Bn, cn, rfl, hcn, hnc⟩ := hn1; have HFr : Hid (w.heap.size ≤ Bn) := Lib.hid (Nat.le_trans (by rw [alloc_size]; omega) (hfr Bn rfl)); clear hfr; rw [HK.out] at hcn ⊢; have HN1 := Lib.hid hnc; have HB1 := Lib.hid hb1; have r0 := (HL.out.below hb1).row.cell 0; clear hnc hb1)
    clear HMx B1
    have HBw := Lib.hid (HBx.out.trans (HB1.out.mono HBx.out.size))
    go_cut [29] (fun v29 wc => v29 = .bool (!orderOkP last ns) ∧ Below w1.heap.size w1 wc)
    case first =>
      cases last with
      | none =>
        have hvl : vl = .slice none 0 0 := HL.out.last
        subst hvl
        go_wp2
        go_meet
        case rel => exact ⟨rfl, Below.refl _ _⟩
      | some l =>
        obtain ⟨B0', c0, rfl, hc0, hs0⟩ := HL.out.last
        have HNl : Hid (NmV w1 (.slice (some ⟨B0', 0, none⟩) l.length c0) (some l)) := Lib.hid (HL.out.below HB1.out).last
        have HNn : Hid (NmV w1 (.slice (some ⟨Bn, 0, none⟩) (k + 1) cn) (some ns)) := Lib.hid ⟨Bn, cn, by rw [HK.out], by rw [HK.out]; exact hcn, HN1.out⟩
        have HL1 := Lib.hid (HLast.out l rfl)
        clear hs0 hc0
        cases ha : aheadB l ns with
        | true =>
          have HAh := Lib.hid ha
          clear ha
          go_wp2_with (go_at_call 43; refine (call_ahead _ _ _ _ _ HNl.out.sl HNn.out.sl HL1.out (by rw [Option.getD_some, HK.out]; omega)).mono ?_; rintro e w2 ⟨rfl, hb2⟩; rw [Option.getD_some, Option.getD_some, HAh.out])
          go_meet
          case rel => exact ⟨by rw [orderOkP, HAh.out]; rfl, hb2⟩
        | false =>
          have HAh := Lib.hid ha
          clear ha
          go_wp2_with (go_at_call 43; refine (call_ahead _ _ _ _ _ HNl.out.sl HNn.out.sl HL1.out (by rw [Option.getD_some, HK.out]; omega)).mono ?_; rintro e w2 ⟨rfl, hb2⟩; rw [Option.getD_some, Option.getD_some, HAh.out])
          go_meet
          case rel => exact ⟨by rw [orderOkP, HAh.out]; rfl, hb2⟩
    case rest =>
      obtain ⟨rfl, hbc⟩ := hcut
      have HBc := Lib.hid (HBw.out.trans (hbc.mono HBw.out.size))
      have HLc := Lib.hid ((HL.out.below HB1.out).below hbc)
      have HNc : Hid (NmV wc (.slice (some ⟨Bn, 0, none⟩) (k + 1) cn) (some ns)) := Lib.hid (NmV.keep ⟨Bn, cn, by rw [HK.out], by rw [HK.out]; exact hcn, HN1.out⟩ (keeps_below hbc))
      have HNC : Hid (∀ j s, ns[j]? = some s → wc.cell? ⟨Bn, j, none⟩ = some (.string (bs s))) := Lib.hid (fun j s hj => keeps_below hbc _ _ _ (HN1.out j s hj))
      have R51 := Lib.hid (Row.below ((Row.new w 58 (mbCells m (.slice ap mp cp))).below HB1.out (by rw [alloc_size]; omega)) hbc (Nat.lt_of_lt_of_le (by rw [alloc_size]; omega) HB1.out.size))
      have HVc := Lib.hid ((HV.out.keep (keeps_below HB1.out)).keep (keeps_below hbc))
      clear HBw HL HB1 HN1 HV hbc HBx B0 r0
      cases ho : orderOkP last ns with
      | false =>
        have HA2 : Hid (addOk last fk fl m = false) := Lib.hid (by rw [HA.out, ho]; rfl)
        clear ho
        go_step; go_step
        go_wp2
        go_ret
        exact ⟨by rw [HA2.out]; rfl, Touch.of_below HBc.out _ _ _, fun h => by rw [HA2.out] at h; cases h⟩
      | true =>
        have HA2 : Hid (addOk last fk fl m = (upOkP fk ns && kindOkP fk fl m)) := Lib.hid (by rw [HA.out, ho]; rfl)
        clear ho
        go_step; go_step
        go_upto_region 5 with (fail)
        go_cut [46] (fun v46 wd => v46 = .bool (!upOkP fk ns) ∧ Below wc.heap.size wc wd)
        case first =>
          have r1 := HLc.out.row.cell 1
          haveI : Nonempty (Wd (Below wc.heap.size wc)) := ⟨⟨_, Below.refl _ _⟩⟩
          have k1 : ∀ y : Wd (Below wc.heap.size wc), y.val.cell? ⟨B, 1, none⟩ = some (.map (some b1)) := fun y => keeps_below y.ok _ _ _ r1
          have k2 : ∀ y : Wd (Below wc.heap.size wc), (Instr.lookup 45 (.map (some b1)) (.string (bs J)) false).run Tryz.prog y.val = .ok (.int .i64 (fk J)) y.val := fun y => (HLc.out.below y.ok).kinds.look HJl.out
          have HKl : Hid (k < ns.length) := Lib.hid (by rw [HK.out]; omega)
          have HKc : Hid (ns.length ≤ cn) := Lib.hid (by rw [HK.out]; exact hcn)
          have HKn : Hid (ns.length ≤ 1048577) := Lib.hid (by rw [HK.out]; omega)
          have HJj : Hid ((Lib.join (ns.take k) [47]).length ≤ 1048576) := Lib.hid (by rw [HJ.out]; exact HJl.out)
          by_cases hk0 : k = 0
          · have d0 : decide (0 < k) = false := by rw [hk0]; rfl
            have hu : upOkP fk ns = true := by rw [HU.out, hk0]; rfl
            have HUt := Lib.hid hu
            clear hu hk0
            refine wp_region_class (Below wc.heap.size wc) (by kernel_rfl) (by kernel_rfl) (below_drew _) ?_
            repeat (first | go_big_quiet_skip | (go_big_quiet_want; go_big_quiet_op; first | go_big_quiet_on | go_big_quiet_call (fail)))
            refine wpQuiet_nil ?_
            rintro _ ⟨y, rfl⟩
            clear k1 k2
            have HY := Lib.hid y.ok
            go_wp2
            go_meet
            case rel => exact ⟨by rw [HUt.out]; rfl, HY.out⟩
          · have d0 : decide (0 < k) = true := decide_eq_true (by omega)
            have HK0 : Hid (0 < k) := Lib.hid (by omega)
            have z1 : (0 : Int) ≤ (k : Int) := by omega
            have z2 : (k : Int) ≤ (cn : Int) := by omega
            have hu : upOkP fk ns = decide (fk J = 2) := by rw [HU.out, decide_eq_false hk0]; rfl
            have HUt := Lib.hid hu
            clear hu hk0
            refine wp_region_class (Below wc.heap.size wc) (by kernel_rfl) (by kernel_rfl) (below_drew _) ?_
            repeat (first | go_big_quiet_skip | (go_big_quiet_want; go_big_quiet_op; first | go_big_quiet_on | go_big_quiet_call ((go_at_call 44; refine (call_join ns k Bn cn _ (fun j s hj => keeps_below (Wd.ok _) _ _ _ (HNC.out j s hj)) HK0.out HKl.out HKc.out HKn.out HJj.out).mono ?_; rintro e w2 ⟨rfl, hb2⟩; rw [HJ.out]; exact ⟨rfl, ⟨_, below_after (Wd.ok _) hb2⟩, rfl⟩))))
            refine wpQuiet_nil ?_
            rintro _ ⟨y, rfl⟩
            clear k1 k2
            have HY := Lib.hid y.ok
            go_wp2
            go_meet
            case rel => exact ⟨by rw [HUt.out]; by_cases h : fk J = 2 <;> simp [h, bne], HY.out⟩
        case rest =>
          obtain ⟨rfl, hbd⟩ := hcut
          have HBd := Lib.hid (HBc.out.trans (hbd.mono HBc.out.size))
          have HLd := Lib.hid (HLc.out.below hbd)
          have HNd := Lib.hid (HNc.out.keep (keeps_below hbd))
          have R51d := Lib.hid (R51.out.below hbd R51.out.lt)
          have HVd := Lib.hid (HVc.out.keep (keeps_below hbd))
          clear HBc HLc HNc HNC R51 HVc hbd
          cases ho : upOkP fk ns with
          | false =>
            have HA3 : Hid (addOk last fk fl m = false) := Lib.hid (by rw [HA2.out, ho]; rfl)
            clear ho
            go_step; go_step
            go_wp2
            go_ret
            exact ⟨by rw [HA3.out]; rfl, Touch.of_below HBd.out _ _ _, fun h => by rw [HA3.out] at h; cases h⟩
          | true =>
            have HA3 : Hid (addOk last fk fl m = kindOkP fk fl m) := Lib.hid (by rw [HA2.out, ho]; rfl)
            clear ho HA HA2 HU HJl HJ
            go_step; go_step
            go_wp2_with (go_at_call 45; refine (call_checks _).mono ?_; rintro e w3 ⟨B3, rfl, hB3, hr3, hb3⟩; have HR3 := Lib.hid hr3; have HB3 := Lib.hid hb3; clear hr3 hb3 hB3)
            have HBe := Lib.hid (HBd.out.trans (HB3.out.mono HBd.out.size))
            have HLe := Lib.hid (HLd.out.below HB3.out)
            have HNe := Lib.hid (HNd.out.keep (keeps_below HB3.out))
            have R51e := Lib.hid (R51d.out.below HB3.out R51d.out.lt)
            clear HBd HLd HNd R51d HVd
            go_loopw [49] (fun i wr => ∃ (z : Nat), i = .int .i64 z ∧ z ≤ 3 ∧ Row wr B3 106 checkRow ∧ Row wr w.heap.size 58 (mbCells m (.slice ap mp cp)) ∧ NmV wr (.slice (some ⟨Bn, 0, none⟩) (k + 1) cn) (some ns) ∧ LoopSt w B b1 b2 fk fl m z wr)
              (fun i _ => 3 - (RowKit.intOf i).toNat)
            case atStart => exact ⟨0, rfl, by omega, HR3.out, R51e.out, HNe.out, .inl ⟨Nat.zero_le _, HBe.out⟩⟩
            case round =>
              obtain ⟨z, rfl, hz, hr, h51, hnn, hst⟩ := hrel
              have HR := Lib.hid hr
              have H51 := Lib.hid h51
              have HN := Lib.hid hnn
              have HSt := Lib.hid hst
              clear HR3 R51e HNe HBe HLe HB3 hr h51 hnn hst
              by_cases hlt : z < 3
              · obtain ⟨x, hx⟩ : ∃ x, kc z = x := ⟨_, rfl⟩
                obtain ⟨f, hf⟩ : ∃ x, fc z = x := ⟨_, rfl⟩
                have c0 : wr.cell? ⟨B3, z * 2, none⟩ = some (.int .i64 x) := by
                  rw [HR.out.cell, ← hx]
                  match z, hlt with
                  | 0, _ | 1, _ | 2, _ => rfl
                have c1 : wr.cell? ⟨B3, z * 2 + 1, none⟩ = some (.func (.func f) #[] #[]) := by
                  rw [HR.out.cell, ← hf]
                  match z, hlt with
                  | 0, _ | 1, _ | 2, _ => rfl
                have HX := Lib.hid hx
                have HFn := Lib.hid hf
                have HKx : Hid (kpos m.kind = z ↔ x = m.kind) := Lib.hid (by rw [← hx]; exact kc_ne hlt)
                have HC8 := Lib.hid (Row.new wr 106 [.int .i64 x, .func (.func f) #[] #[]])
                have H51b := Lib.hid (H51.out.alloc (.cells #[.int .i64 x, .func (.func f) #[] #[]] 106))
                clear hx hf
                go_upto_region 10 with (fail)
                go_cut [64] (fun v64 wc => AfterC w m (.slice ap mp cp) (.slice (some ⟨Bn, 0, none⟩) (k + 1) cn) ns lo B b1 b2 n vl last fk fl B3 z v64 wc)
                case first =>
                  have a0 := HC8.out.cell 0
                  have a1 := HC8.out.cell 1
                  have d0 := (show _ = some (Value.int .i64 m.kind) from H51b.out.cell 0)
                  have HRb := Lib.hid (HR.out.alloc (.cells #[.int .i64 x, .func (.func f) #[] #[]] 106))
                  have HNb := Lib.hid (HN.out.keep (keeps_alloc wr (.cells #[.int .i64 x, .func (.func f) #[] #[]] 106)))
                  by_cases hxm : x = m.kind
                  · have HBb := Lib.hid (below_after (HSt.out.here (HKx.out.2 hxm)) (below_alloc1 wr (.cells #[.int .i64 x, .func (.func f) #[] #[]] 106)))
                    have HVb := Lib.hid (HV0.out.keep (keeps_below HBb.out))
                    have HLb := Lib.hid (HL0.out.below HBb.out)
                    have HN6 : Hid (n < 1000000) := Lib.hid (by omega)
                    have d1 := (show _ = some (Value.string (bs m.path)) from H51b.out.cell 1)
                    have d2 := (show _ = some (Value.string (bs m.link)) from H51b.out.cell 2)
                    have d3 := (show _ = some (Value.int .i64 m.size) from H51b.out.cell 3)
                    have d4 := (show _ = some (Value.slice ap mp cp) from H51b.out.cell 4)
                    clear c0 c1
                    rcases (by omega : z = 0 ∨ z = 1 ∨ z = 2) with rfl | rfl | rfl
                    · obtain rfl : x = 2 := HX.out.symm
                      obtain rfl : f = 64 := HFn.out.symm
                      have hkk : m.kind = 2 := hxm.symm
                      have HKk := Lib.hid hkk
                      have q : ((2 : Int) == m.kind) = true := beq_iff_eq.2 hxm
                      have HPos := Lib.hid (HKx.out.2 hxm)
                      clear hkk hxm
                      go_wp2_with (go_at_call 64; refine (call_check1 _ m (.slice ap mp cp) _ HVb.out HSm.out).mono ?_; rintro e w4 ⟨rfl, hb4⟩; have HB4 := Lib.hid hb4; clear hb4)
                      go_meet
                      case rel => exact afterRead HL0.out HBb.out HRb.out H51b.out HNb.out HPos.out (kindOk2 (fk := fk) (fl := fl) HKk.out).1 (kindOk2 (fk := fk) (fl := fl) HKk.out).2 HB4.out
                    · obtain rfl : x = 1 := HX.out.symm
                      obtain rfl : f = 66 := HFn.out.symm
                      have hkk : m.kind = 1 := hxm.symm
                      have HKk := Lib.hid hkk
                      have q : ((1 : Int) == m.kind) = true := beq_iff_eq.2 hxm
                      have HPos := Lib.hid (HKx.out.2 hxm)
                      clear hkk hxm
                      go_wp2_with (go_at_call 66; refine (call_check2 _ m (.slice ap mp cp) _ HVb.out HSm.out).mono ?_; rintro e w4 ⟨rfl, hb4⟩; have HB4 := Lib.hid hb4; clear hb4)
                      go_meet
                      case rel => exact afterRead HL0.out HBb.out HRb.out H51b.out HNb.out HPos.out (kindOk1 (fk := fk) (fl := fl) HKk.out).1 (kindOk1 (fk := fk) (fl := fl) HKk.out).2 HB4.out
                    · obtain rfl : x = 3 := HX.out.symm
                      obtain rfl : f = 68 := HFn.out.symm
                      have hkk : m.kind = 3 := hxm.symm
                      have HKk := Lib.hid hkk
                      have q : ((3 : Int) == m.kind) = true := beq_iff_eq.2 hxm
                      have HPos := Lib.hid (HKx.out.2 hxm)
                      clear hkk hxm
                      go_wp2_with (go_at_call 68; refine (call_check3 m (.slice ap mp cp) _ HVb.out HSm.out HLb.out HN6.out HF.out).mono ?_; rintro e w4 ⟨rfl, hl4, hg4⟩; have HL4 := Lib.hid hl4; have HG4 := Lib.hid hg4; clear hl4 hg4)
                      go_meet
                      case rel => exact afterLink HL0.out HBb.out HRb.out H51b.out HNb.out HPos.out (kindOk3 (fk := fk) (fl := fl) HKk.out).1 (by rw [(kindOk3 (fk := fk) (fl := fl) HKk.out).2]; exact HL4.out) HG4.out
                  · have q : (x == m.kind) = false := beq_eq_false_iff_ne.2 hxm
                    have HNe : Hid (kpos m.kind ≠ z) := Lib.hid (fun e => hxm (HKx.out.1 e))
                    clear hxm c0 c1
                    go_wp2
                    go_meet
                    case rel => exact .inr ⟨rfl, HRb.out, H51b.out, HNb.out, HSt.out.next HNe.out (below_alloc1 _ _)⟩
                case rest =>
                  clear HC8 H51b c0 c1
                  rcases hcut with ⟨rfl, hyes⟩ | ⟨rfl, h1, h2, h3, h4⟩
                  · obtain ⟨hkk, ht, h51, hn5, n', hn', hls⟩ := hyes
                    have HKk := Lib.hid hkk
                    have HT := Lib.hid ht
                    have HLs := Lib.hid (hls.last' hn5)
                    have H52 := Lib.hid ((Touch.set wc B 0 (.slice (some ⟨Bn, 0, none⟩) (k + 1) cn) b1 b2).row hls h51 (by decide))
                    have r0 := (show _ = some vl from hls.row.cell 0)
                    have rf := hls.row.free 0
                    have r1 := (show _ = some (Value.map (some b1)) from HLs.out.row.cell 1)
                    have e0 := (show _ = some (Value.int .i64 m.kind) from H52.out.cell 0)
                    have e1 := (show _ = some (Value.string (bs m.path)) from H52.out.cell 1)
                    have HN5 : Hid (n' < 1000000) := Lib.hid (by omega)
                    have HN6 : Hid (n' ≤ n + 1) := Lib.hid hn'
                    have HKi : Hid (I64 m.kind) := Lib.hid HV0.out.kind
                    have hneB : B ≠ b1 := hls.kinds.ne_cell r0
                    have hne5 : w.heap.size ≠ b1 := Row.ne_map h51 hls.kinds
                    clear hkk ht h51 hn5 hls hn'
                    go_step; go_step
                    go_wp2_with fail
                    obtain ⟨w2, hput, hm2, hg2⟩ := HLs.out.kinds.drew.put HSm.out.path HN5.out m.kind HKi.out
                    have HM2 := Lib.hid hm2
                    have HG2 := Lib.hid hg2
                    clear hm2 hg2
                    go_region_held3 (fun w' => w'.cell? ⟨B, 1, none⟩ = some (.map (some b1)) ∧ w'.cell? ⟨w.heap.size, 1, none⟩ = some (.string (bs m.path)) ∧ w'.cell? ⟨w.heap.size, 0, none⟩ = some (.int .i64 m.kind))
                      (first | exact ⟨r1, e1, e0⟩ | exact ⟨(HG2.out.cell (a := ⟨B, 1, none⟩) r1 (by simpa using hneB)), (HG2.out.cell (a := ⟨w.heap.size, 1, none⟩) e1 (by simpa using hne5)), (HG2.out.cell (a := ⟨w.heap.size, 0, none⟩) e0 (by simpa using hne5))⟩)
                      (first | fail)
                    have HFin := Lib.hid (LstV.kinds' (HLs.out.below (below_drew _)) HM2.out HG2.out (Nat.le_succ n'))
                    have HTf := Lib.hid ((HT.out.trans (Touch.set wc B 0 (.slice (some ⟨Bn, 0, none⟩) (k + 1) cn) b1 b2)).trans ((Touch.of_below (below_drew _) B b1 b2).trans (Touch.grown1 HG2.out B b2)))
                    clear hput HM2 HG2 HLs HT r0 r1 e0 e1 rf
                    go_wp2
                    go_ret
                    exact ⟨by rw [HA3.out, HKk.out]; rfl, HTf.out, fun _ => ⟨_, n' + 1, by have := HN6.out; omega, HFin.out, fun b h => by cases h; exact HFr.out⟩⟩
                  · have K1 := Lib.hid h1
                    have K2 := Lib.hid h2
                    have K3 := Lib.hid h3
                    have K4 := Lib.hid h4
                    clear h1 h2 h3 h4
                    go_step; go_step
                    go_wp2
                    go_roundw
                    case rel => exact ⟨z + 1, by go_num, by omega, K1.out, K2.out, K3.out, K4.out⟩
                    case measure => simp [RowKit.intOf]; omega
              · obtain rfl : z = 3 := by omega
                have hno := HSt.out.last
                have HNo : Hid (addOk last fk fl m = false) := Lib.hid (by rw [HA3.out, hno])
                clear hno
                rw [show ((3 : Nat) : Int) = 3 from rfl]
                go_wp2
                go_ret
                exact ⟨by rw [HNo.out]; rfl, HSt.out.touch, fun h => by rw [HNo.out] at h; cases h⟩
end Go.Proofs.YtlecpjfggoehdaaGreatDoor.Ar
