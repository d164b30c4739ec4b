/-
  Mend, x: breaches told, one by one.
-/
import Derived.Test.YtgoogbakhhbnhaaGreatDoorMv
import Derived.Maps.AppendAt
set_option linter.unusedVariables false
set_option linter.unusedSimpArgs false
set_option maxRecDepth 100000
namespace Go.Proofs.YtgoogbakhhbnhaaGreatDoor.Ar
open Go.RowKit Go.Sort Go.Lib Go.Proofs.YtgoogbakhhbnhaaGreatDoor.Rs
theorem info33 : (Tryz.prog.info? 33).map (fun i => (i.zero, i.size, i.bytes)) = some (some (.agg #[.int .i64 0, .int .i64 0]), 2, 16) := by kernel_rfl
/-- what a list that grows in a box changes: the box, and blocks of the list's own type -/
structure KeepT (T B : Nat) (w w' : World) : Prop where
  size : w.heap.size ≤ w'.heap.size
  os : w'.os = w.os
  tape : w'.tape = w.tape
  output : w'.output = w.output
  same : ∀ (k : Nat) (o : Obj), w.heap[k]? = some o → k ≠ B → (∀ cur fr, o ≠ .cells cur T fr) → w'.heap[k]? = some o
theorem KeepT.of_below {T B : Nat} {w w' : World} (h : Below w.heap.size w w') : KeepT T B w w' := ⟨h.size, h.os, h.tape, h.output, fun k o hk _ _ => (h.block k (Array.getElem?_eq_some_iff.1 hk).1).trans hk⟩
theorem KeepT.trans {T B : Nat} {w w' w'' : World} (h : KeepT T B w w') (k : KeepT T B w' w'') : KeepT T B w w'' :=
  ⟨Nat.le_trans h.size k.size, k.os.trans h.os, k.tape.trans h.tape, k.output.trans h.output, fun i o hi hB hT => k.same i o (h.same i o hi hB hT) hB hT⟩
theorem KeepT.row {T B T' C : Nat} {w w' : World} {cur : List Value} (h : KeepT T B w w') (hr : Row w C T' cur) (hne : C ≠ B) (hT : T' ≠ T) : Row w' C T' cur :=
  h.same C _ hr hne (fun c fr e => by injection e with _ e2; exact hT e2)
theorem KeepT.mapi {T B m : Nat} {w w' : World} {l : List (Int × Value)} (h : KeepT T B w w') (hr : MapI w m l) (hne : m ≠ B) : MapI w' m l :=
  h.same m _ hr hne (fun c fr e => by cases e)
theorem own_isS {w : World} {base e size n : Nat} {v : Value} {xs : List Value} (h : w.ownsRow base e size v n xs) : ∃ a k c, v = .slice a k c := by
  rcases h.2 with ⟨h1, _⟩ | ⟨_, _, _, h1, _⟩ <;> exact ⟨_, _, _, h1⟩
/-- a list in a box: type of the list TL, of its elements T -/
structure LBox (TL T size base : Nat) (w : World) (B : Nat) (n : Nat) (xs : List Value) : Prop where
  ex : ∃ v, Row w B TL [v] ∧ w.ownsRow base T size v n xs
theorem own_ne_block {TL T size base B n : Nat} {w : World} {v u : Value} {xs : List Value} (hr : Row w B TL [u]) (ho : w.ownsRow base T size v n xs) (hT : TL ≠ T) : v.ownBlock ≠ some B := fun e => by
  rcases ho.2 with ⟨h1, _⟩ | ⟨g, cap, cur, h1, _, hg, _⟩
  · subst h1; cases e
  · subst h1
    simp [Value.ownBlock] at e
    subst e
    have h' : w.heap[g]? = _ := hr
    rw [h'] at hg
    injection hg with hg
    injection hg with _ h3
    exact hT h3
theorem keepT_of_grown {T B size base n : Nat} {w w' : World} {v : Value} {xs : List Value} (ho : w.ownsRow base T size v n xs) (hg : w.grownBy w' v.ownBlock) : KeepT T B w w' :=
  ⟨hg.size, hg.os, hg.tape, hg.output, fun k o hk _ hT => (hg.block k (Array.getElem?_eq_some_iff.1 hk).1 (fun e => by
    rcases ho.2 with ⟨h1, _⟩ | ⟨g, cap, cur, h1, _, hcur, _⟩
    · subst h1; cases e
    · subst h1
      simp [Value.ownBlock] at e
      subst e
      rw [hcur] at hk
      injection hk with hk
      exact hT _ _ hk.symm)).trans hk⟩
theorem keepT_set {T B : Nat} {w : World} (j : Nat) (v : Value) : KeepT T B w (w.setCell ⟨B, j, none⟩ v) :=
  ⟨by simp [World.setCell], rfl, rfl, rfl, fun k o hk hB _ => (Below.heap_setCell w ⟨B, j, none⟩ v k hB).trans hk⟩
theorem call_tell0 (y : Int) (B : Nat) (w : World) : Calls Tryz.prog 12 #[.int .i64 y, .slice none 0 0, .pointer (some ⟨B, 0, none⟩)] w fun e w' => e = .returned (.tuple #[]) ∧ w' = w := by
  go_enter Tryz.func12, Tryz.ntmps12
  go_wp2
  go_loopw [9] (fun iv wr => iv = .int .i64 0 ∧ wr = w) (fun _ _ => 0)
  case atStart => exact ⟨rfl, rfl⟩
  case round =>
    obtain ⟨rfl, rfl⟩ := hrel
    go_wp2
    go_end0
    exact ⟨rfl, rfl⟩
set_option maxHeartbeats 4000000 in
theorem call_tell1 (y p : Int) (g c B n base : Nat) (xs : List Value) (w : World) (hn : n ≤ 10) (hb : base ≤ w.heap.size) (hB : base ≤ B) (hc : w.cell? ⟨g, 0, none⟩ = some (.int .i64 p)) (hl : LBox 25 33 2 base w B n xs) :
    Calls Tryz.prog 12 #[.int .i64 y, .slice (some ⟨g, 0, none⟩) 1 c, .pointer (some ⟨B, 0, none⟩)] w fun e w' => e = .returned (.tuple #[]) ∧ LBox 25 33 2 base w' B (n + 1) (xs ++ [.int .i64 y, .int .i64 p]) ∧ KeepT 33 B w w' ∧ Below base w w' := by
  obtain ⟨v, hr, ho⟩ := hl.ex
  obtain ⟨i0, hi, hz0, hz1, hz2⟩ := info_parts info33
  have HR := Lib.hid hr
  have HO := Lib.hid ho
  have HC := Lib.hid hc
  obtain ⟨va, vk, vc, rfl⟩ := own_isS ho
  clear hr ho hl hc
  go_enter Tryz.func12, Tryz.ntmps12
  go_wp2
  go_loopw [9] (fun iv wr => (iv = .int .i64 0 ∧ wr = w) ∨ (iv = .int .i64 1 ∧ LBox 25 33 2 base wr B (n + 1) (xs ++ [.int .i64 y, .int .i64 p]) ∧ KeepT 33 B w wr ∧ Below base w wr)) (fun iv _ => 1 - (RowKit.intOf iv).toNat)
  case atStart => exact .inl ⟨rfl, rfl⟩
  case round =>
    rcases hrel with ⟨rfl, rfl⟩ | ⟨rfl, hl, hk, hb2⟩
    · have c0 := HC.out
      have r0 := (show wr.cell? ⟨B, 0, none⟩ = some (.slice va vk vc) from HR.out.cell 0)
      have HRa := Lib.hid (HR.out.alloc (.cells #[.int .i64 y, .int .i64 p] 33))
      have HOa := Lib.hid (own_below HO.out (below_alloc1 wr (.cells #[.int .i64 y, .int .i64 p] 33)))
      have HNa := Lib.hid (Row.new wr 33 [.int .i64 y, .int .i64 p])
      have HBa := Lib.hid (below_alloc1 wr (.cells #[.int .i64 y, .int .i64 p] 33))
      go_wp2_with (first
        | (refine wpList_append_own _ rfl _ _ 25 rfl base 33 i0 (.agg #[.int .i64 0, .int .i64 0]) 2 16 Tryz.underlying25 hi hz0 hz1 hz2 rfl (by decide) _ n xs rfl HOa.out ⟨wr.heap.size, 0, none⟩ 1 1 [.int .i64 y, .int .i64 p] rfl rfl HNa.out.cells (by intro u hu; simp only [List.mem_cons, List.not_mem_nil, or_false] at hu; rcases hu with rfl | rfl <;> rfl) (by simp only [maxLen]; omega) (by omega) (by rw [alloc_size]; omega) ?_; intro v9 w9 h1 h2 h3; obtain ⟨a9, n9, c9, rfl⟩ := own_isS h1; have hne := own_ne_block HRa.out HOa.out (by decide); have HR9 := Lib.hid (show Row w9 B 25 [.slice va vk vc] from (h2.block B HRa.out.lt (fun e => hne e.symm)).trans HRa.out); have H1 := Lib.hid h1; have HK := Lib.hid (keepT_of_grown (B := B) HOa.out h2); have HB9 := Lib.hid (below_grown HOa.out h2 (Nat.le_refl _) (by rw [alloc_size]; omega)); have z0 := (show w9.cell? ⟨B, 0, none⟩ = some (.slice va vk vc) from HR9.out.cell 0); have z1 := HR9.out.free 0; clear h1 h2 h3 hne c0 r0))
      exact ⟨.inr ⟨rfl, ⟨_, HR9.out.set 0 _, ownsRow_setCell_other H1.out (a := ⟨B, 0, none⟩) (fun e => own_ne_block HR9.out H1.out (by decide) e) _⟩, ((KeepT.of_below HBa.out).trans HK.out).trans (keepT_set 0 _), ((HBa.out.mono hb).trans HB9.out).setCell (p := ⟨B, 0, none⟩) hB _⟩, by simp [RowKit.intOf]⟩
    · have HL := Lib.hid hl
      have HK := Lib.hid hk
      have HB2 := Lib.hid hb2
      clear hl hk hb2
      go_wp2
      go_end0
      exact ⟨rfl, HL.out, HK.out, HB2.out⟩
end Go.Proofs.YtgoogbakhhbnhaaGreatDoor.Ar
