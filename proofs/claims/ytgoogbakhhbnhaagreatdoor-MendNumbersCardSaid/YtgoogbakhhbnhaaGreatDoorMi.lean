
/-
  Mend, i: nothing pending.
-/
import Derived.Test.YtgoogbakhhbnhaaGreatDoorMh
set_option linter.unusedVariables false
set_option linter.unusedSimpArgs false
set_option maxRecDepth 100000
namespace Go.Proofs.YtgoogbakhhbnhaaGreatDoor.Ar
open Go.RowKit Go.Sort Go.Lib Go.Proofs.YtgoogbakhhbnhaaGreatDoor.Rs
theorem sl_txt {w w' : World} {bb oo k n c : Nat} {l : List UInt8} (hk : k + n ≤ l.length) (hc : ∀ j x, l[j]? = some x → RByte w bb (oo + j * 1) x) (hb : Below w.heap.size w w') : Sl RByte 1 w' (.slice (some ⟨bb, oo + k, none⟩) n c) (txt l k n) := by
  refine ⟨_, bb, oo + k, _, by rw [txt_len hk], fun _ => rfl, fun j x hx => ?_⟩
  have h1 : l[k + j]? = some x := by
    rw [txt, List.getElem?_take] at hx
    split at hx
    · rw [← List.getElem?_drop]; exact hx
    · cases hx
  have h2 := RByte.stays _ _ (keeps_below hb) _ _ _ (hc _ _ h1)
  unfold RByte at h2 ⊢
  rw [Nat.mul_one, ← Nat.add_assoc] at h2
  rw [Nat.mul_one]
  exact h2
/-- an image as the example has it: the superblock, an empty journal -/
structure Img (l : List UInt8) : Prop where
  len : l.length = 12288
  sup : SupB (txt l 0 64)
  undo : unsealI 512 (leN (txt l 512 512) 0 8) = some 0
set_option maxHeartbeats 2000000 in
theorem call_pending (l : List UInt8) (hl : Img l) (vb : Value) (w : World) (hv : Sl RByte 1 w vb l) (hcap : ∀ a n c, vb = .slice a n c → n ≤ c ∧ c ≤ 1000000000) (hp : Stp w) :
    Calls Tryz.prog 56 #[vb] w fun e w' => e = .returned (.tuple #[.slice none 0 0, .int .i64 0]) ∧ Below w.heap.size w w' := by
  have HF := Lib.hid (call_find l hl.len hl.sup vb w hv hcap hp)
  have HP := Lib.hid hp
  have HL := Lib.hid hl
  have hlen := hl.len
  obtain ⟨aa, bb, oo, cc, rfl, ha, hc⟩ := hv
  have ha' := ha (by omega)
  subst ha'
  have HC := Lib.hid hc
  obtain ⟨c1, c2⟩ := hcap _ _ _ rfl
  rw [hlen] at c1 HF ⊢
  have k1 : (1024 : Int) ≤ cc := by omega
  have k2 : (512 : Int) ≤ cc := by omega
  have k3 : ¬ cc = 512 := by omega
  clear hp hl hlen ha hc hcap
  go_enter Tryz.func56, Tryz.ntmps56
  go_wp2_with (first
    | (go_at_call 32; refine HF.out.mono ?_; rintro e w1 ⟨rfl, hb⟩; have HB1 := Lib.hid hb; clear hb HF)
    | (go_at_call 84; have hg := HB1.out; clear hg; refine (call_openUndo (txt l 512 512) (txt_len (by rw [HL.out.len]; decide)) HL.out.undo _ _ (sl_txt (by rw [HL.out.len]; decide) HC.out (below_after HB1.out (below_alloc1 _ _))) (by intro a n c e; injection e with e1 e2 e3; omega) (HP.out.below (below_after HB1.out (below_alloc1 _ _)))).mono ?_; rintro e w2 ⟨rfl, hb⟩; have HB2 := Lib.hid (below_after (below_after HB1.out (below_alloc1 _ _)) hb); clear hb HB1))
  go_loopw [26] (fun iv wr => iv = .int .i64 0 ∧ Below w.heap.size w wr) (fun _ _ => 0)
  case atStart => exact ⟨rfl, HB2.out⟩
  case round =>
    obtain ⟨rfl, hb⟩ := hrel
    have HBr := Lib.hid hb
    clear hb
    go_wp2
    exact ⟨rfl, .tuple #[.slice none 0 0, .int .i64 0], by simp [results, Tryz.results56, go_sem], rfl, HBr.out⟩
end Go.Proofs.YtgoogbakhhbnhaaGreatDoor.Ar
