/-
  Mend: a rescue under way: lose, next.
-/
import Derived.Test.YtgoogbakhhbnhaaGreatDoorNd
import Derived.Deep.AppendLies
set_option linter.unusedVariables false
set_option linter.unusedSimpArgs false
set_option maxRecDepth 100000
namespace Go.Proofs.YtgoogbakhhbnhaaGreatDoor.Ar
open Go.RowKit Go.Sort Go.Lib Go.Proofs.YtgoogbakhhbnhaaGreatDoor.Rs
theorem info35 : (Tryz.prog.info? 35).map (fun i => (i.zero, i.size, i.bytes)) = some (some (.agg #[.int .i64 0, .int .i64 0, .string ⟨#[]⟩]), 3, 32) := by kernel_rfl
theorem info118 : (Tryz.prog.info? 118).map (fun i => (i.zero, i.size, i.bytes)) = some (some (.agg #[.string ⟨#[]⟩, .int .i64 0]), 2, 24) := by kernel_rfl
theorem KeepT.own {T B N T' size n : Nat} {w w' : World} {v : Value} {xs : List Value} (h : KeepT T B w w') (ho : w.ownsRow N T' size v n xs) (hT : T' ≠ T) (hB : v.ownBlock ≠ some B) : w'.ownsRow N T' size v n xs := by
  refine ⟨ho.1, ?_⟩
  rcases ho.2 with h1 | ⟨g, cap, cur, h1, h2, hg, h3⟩
  · exact .inl h1
  · refine .inr ⟨g, cap, cur, h1, h2, h.same g _ hg (fun e => hB (by subst h1; simp [Value.ownBlock, e])) (fun c f e => by injection e with _ e2; exact hT e2), h3⟩
theorem own_ne_row {TL T size base B n : Nat} {w : World} {v : Value} {cur xs : List Value} (hr : Row w B TL cur) (ho : w.ownsRow base T size v n xs) (hT : TL ≠ T) : v.ownBlock ≠ some B := fun e => by
  rcases ho.2 with ⟨h1, _⟩ | ⟨g, cap, cur', h1, _, hg, _⟩
  · subst h1; cases e
  · subst h1
    simp [Value.ownBlock] at e
    subst e
    have h' : w.heap[g]? = _ := hr
    rw [h'] at hg
    injection hg with hg
    injection hg with _ h3
    exact hT h3
section
variable {base P R m mo mm mt np : Nat} {Mm : List (Int × Value)} {xp : List Value} {w : World}
set_option maxHeartbeats 4000000 in
theorem call_lose (g c : Nat) (hb : base ≤ w.heap.size) (h : WkI base w P R m mo mm mt Mm 0 np [] xp) (hg : Row w g 35 [.int .i64 114, .int .i64 5, .string ⟨#[]⟩]) :
    Calls Tryz.prog 17 #[.pointer (some ⟨P, 0, none⟩), .slice (some ⟨g, 0, none⟩) 1 c] w fun e w' => (∃ v, e = .returned v) ∧ WkI base w' P R m mo mm mt Mm 1 np [.int .i64 114, .int .i64 5, .string ⟨#[]⟩] xp ∧ KeepT 35 P w w' ∧ Below base w w' := by
  obtain ⟨vl, vp, h1, h2, h3⟩ := h.ex
  obtain ⟨i0, hi, hz0, hz1, hz2⟩ := info_parts info35
  obtain ⟨la, lk, lc, rfl⟩ := own_isS h2
  have H := Lib.hid h
  have H1 := Lib.hid h1
  have H2 := Lib.hid h2
  have H3 := Lib.hid h3
  have HG := Lib.hid hg
  have c3 := (show w.cell? ⟨P, 3, none⟩ = some (.slice la lk lc) from h1.cell 3)
  have hone : Hid (∀ u ∈ [Value.int .i64 114, .int .i64 5, .string ⟨#[]⟩], u.oneCell' = true) := Lib.hid (by intro u hu; simp only [List.mem_cons, List.not_mem_nil, or_false] at hu; rcases hu with rfl | rfl | rfl <;> rfl)
  have hcl := Lib.hid hg.cells
  have hbg := fun {v' : Value} {w' : World} (h2 : w.grownBy w' (Value.slice la lk lc).ownBlock) => below_grown H2.out h2 (Nat.le_refl _) hb
  clear h h1 h2 h3 hg
  go_enter Tryz.func17, Tryz.ntmps17
  go_wp2_with (refine wpList_append_own _ rfl _ _ 28 rfl base 35 i0 (.agg #[.int .i64 0, .int .i64 0, .string ⟨#[]⟩]) 3 32 Tryz.underlying28 hi hz0 hz1 hz2 rfl (by decide) _ 0 [] rfl H2.out ⟨g, 0, none⟩ 1 c [.int .i64 114, .int .i64 5, .string ⟨#[]⟩] rfl rfl hcl.out hone.out (by decide) (by decide) hb ?_; intro v9 w9 h1 h2 h3; obtain ⟨a9, n9, c9, rfl⟩ := own_isS h1; have hne := own_ne_row H1.out H2.out (by decide); have HR9 := Lib.hid (show Row w9 P 76 [.pointer (some ⟨R, 0, none⟩), .map (some mm), .map (some mt), .slice la lk lc, vp] from (h2.block P H1.out.lt (fun e => hne e.symm)).trans H1.out); have H9 := Lib.hid h1; have HK := Lib.hid (keepT_of_grown (B := P) H2.out h2); have HB9 := Lib.hid (below_grown H2.out h2 (Nat.le_refl _) hb); have z0 := (show w9.cell? ⟨P, 3, none⟩ = some (.slice la lk lc) from HR9.out.cell 3); have z1 := HR9.out.free 3; clear h1 h2 h3 hne c3)
  go_end0
  have hk := HK.out.trans (keepT_set (T := 35) (B := P) (w := w9) 3 (.slice a9 n9 c9))
  obtain ⟨vo, hsr⟩ := H.out.scan.row
  refine ⟨⟨_, rfl⟩, ⟨⟨⟨vo, hk.row hsr (row_ne hsr H1.out (by decide)) (by decide)⟩, hk.mapi H.out.scan.map (cells_ne_map H1.out H.out.scan.map).symm, hk.mapi H.out.scan.own (cells_ne_map H1.out H.out.scan.own).symm⟩, ⟨_, vp, HR9.out.set 3 _, ownsRow_setCell_other H9.out (a := ⟨P, 3, none⟩) (fun e => own_ne_row HR9.out H9.out (by decide) e) _, hk.own H3.out (by decide) (own_ne_row H1.out H3.out (by decide))⟩, hk.mapi H.out.many (cells_ne_map H1.out H.out.many).symm, H.out.lowP⟩, hk, HB9.out.setCell (p := ⟨P, 3, none⟩) H.out.lowP.1 _⟩
end
section
variable {base P R m mo mm mt nl np : Nat} {Mm : List (Int × Value)} {xl xp : List Value} {w : World}
set_option maxHeartbeats 4000000 in
theorem call_next (g c : Nat) (h : WkI base w P R m mo mm mt Mm nl np xl xp) (hg : w.cell? ⟨g, 0, none⟩ = some (.int .i64 5)) :
    Calls Tryz.prog 45 #[.pointer (some ⟨P, 0, none⟩), .slice (some ⟨g, 0, none⟩) 1 c] w fun e w' => e = .returned (.int .i64 5) ∧ Below w.heap.size w w' := by
  have hmm := @run_makeMap Tryz.prog
  have hb := below_alloc1 w (.map #[] 0)
  have h2 := h.under hb
  have hm : MapI (w.alloc (.map #[] 0)) w.heap.size [] := MapI.made w
  have hg2 := (keeps_below hb _ _ _ hg : World.cell? (w.alloc (.map #[] 0)) ⟨g, 0, none⟩ = some (.int .i64 5))
  have c0 := h2.c0
  have c6 := h2.scan.c6
  have hlk := look59 h2.scan 5 (.inr rfl)
  have hln := hm.look Tryz.underlying60 Tryz.underlying3 (zero3 _) 5
  simp only [atI, Option.getD] at hln
  have hfd := field66n
  have HB := Lib.hid hb
  clear h h2 hm hg
  go_enter Tryz.func45, Tryz.ntmps45
  go_wp2
  generalize w.alloc (.map #[] 0) = w1 at *
  go_loopw [15] (fun iv wr => ∃ j : Nat, iv = .int .i64 j ∧ j ≤ 1 ∧ wr = w1) (fun iv _ => 1 - (RowKit.intOf iv).toNat)
  case atStart => exact ⟨0, rfl, by decide, rfl⟩
  case round =>
    obtain ⟨j, rfl, hj, rfl⟩ := hrel
    rcases (show j = 0 ∨ j = 1 by omega) with rfl | rfl
    · go_wp2
      go_loopw [30] (fun iv wz => iv = .int .i64 0 ∧ wz = wr) (fun _ _ => 0)
      case atStart => exact ⟨rfl, rfl⟩
      case round =>
        obtain ⟨rfl, rfl⟩ := hrel
        go_wp2
        exact ⟨⟨1, rfl, by decide, trivial⟩, by simp [RowKit.intOf]⟩
    · go_wp2
      go_loopw [47] (fun iv wz => iv = .int .i64 0 ∧ wz = wr) (fun _ _ => 0)
      case atStart => exact ⟨rfl, rfl⟩
      case round =>
        obtain ⟨rfl, rfl⟩ := hrel
        go_wp2
        go_ret
        exact ⟨rfl, HB.out⟩
end
/-- a map without entries, read by a text -/
theorem run_check_s {P : Program} {K : TypeId} (hK : P.underlying K = some .string) (e : Bool) (k : ByteArray) (w : World) : (Instr.checkKey e 10000 K (.string k)).run P w = .ok () w := by
  have : ∀ n, (Instr.checkKey e (n + 1) K (.string k)).run P w = .ok () w := fun n => by
    unfold Instr.checkKey
    simp [run_underlying hK, Result.andThen]
  exact this 9999
theorem run_find_s {P : Program} {K : TypeId} (hK : P.underlying K = some .string) (k : ByteArray) (w : World) : (Instr.findKey K (.string k) []).run P w = .ok none w := by
  unfold Instr.findKey
  simp [run_underlying hK, Result.andThen, Instr.findNow]
theorem lookS {P : Program} {T K E : TypeId} {w : World} {b : Nat} (h : MapI w b []) (hT : P.underlying T = some (.map K E)) (hK : P.underlying K = some .string) {z : Value} (hz : (zeroValue E).run P w = .ok z w) (k : ByteArray) :
    (Instr.lookup T (.map (some b)) (.string k) false).run P w = .ok z w := by
  have h' : w.heap[b]? = some (.map #[] 0) := h
  simp [Instr.lookup, run_underlying hT, MapKept.run_getObj_map h', run_check_s hK, run_find_s hK, Result.andThen, hz]
theorem putS {P : Program} {T K E : TypeId} {w : World} {b : Nat} (h : MapI w b []) (hT : P.underlying T = some (.map K E)) (hK : P.underlying K = some .string) (k : ByteArray) (v : Value) :
    (Instr.mapUpdate T (.map (some b)) (.string k) v).run P w = .ok () (w.putObj b (.map #[⟨.string k, v, 0⟩] 1)) := by
  have h' : w.heap[b]? = some (.map #[] 0) := h
  simp [Instr.mapUpdate, run_underlying hT, MapKept.run_getObj_map h', run_check_s hK, run_find_s hK, Result.andThen, MapKept.run_setObj_map _ h', World.putObj]
end Go.Proofs.YtgoogbakhhbnhaaGreatDoor.Ar
