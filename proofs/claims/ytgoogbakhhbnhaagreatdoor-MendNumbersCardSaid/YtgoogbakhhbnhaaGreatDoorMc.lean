
/- Mend: the superblock, opened. -/
import Derived.Test.YtgoogbakhhbnhaaGreatDoorMb
import Derived.Laws.BytesArg
import Derived.Defers
import Derived.Recover
set_option linter.unusedVariables false
set_option linter.unusedSimpArgs false
set_option maxRecDepth 100000
namespace Go.Proofs.YtgoogbakhhbnhaaGreatDoor.Ar
open Go.RowKit Go.Sort Go.Lib Go.Proofs.YtgoogbakhhbnhaaGreatDoor.Rs

def txt (b : List UInt8) (k n : Nat) : List UInt8 := (b.drop k).take n
theorem txt_len {b : List UInt8} {k n : Nat} (h : k + n ≤ b.length) : (txt b k n).length = n := by rw [txt, List.length_take, List.length_drop]; omega
theorem conv_txt {w : World} {B o c : Nat} {l : List UInt8} (hc : ∀ j x, l[j]? = some x → w.cell? ⟨B, o + j, none⟩ = some (byteV x)) : (convert 23 9 (.slice (some ⟨B, o, none⟩) l.length c)).run Tryz.prog w = .ok (.string (bs l)) w := by
  have h := run_convert_bytes_arg (P := Tryz.prog) w 23 5 Tryz.underlying23 Tryz.underlying5 B o l.length c (l.map fun x => (x.toNat : Int)) (by simp) (fun i hi => by
    rw [hc i _ (List.getElem?_eq_getElem hi)]
    simp [byteV, List.getD_eq_getElem?_getD, List.getElem?_eq_getElem hi]) 9 Tryz.underlying9
  rw [h]
  congr 2
  unfold strOfNums bs
  rw [List.map_map]
  congr 2
  conv => rhs; rw [← List.map_id l]
  apply List.map_congr_left
  intro x _
  simp

set_option maxHeartbeats 2000000 in
theorem call_etext (R : Nat) (vb : Value) (b s : List UInt8) (k : Nat) (x : Int) (w : World) (he : Ey w R vb b k) (hk : k + s.length ≤ b.length) (hn : 0 < s.length) (hs : txt b k s.length = s) :
    Calls Tryz.prog 81 #[.pointer (some ⟨R, 0, none⟩), .string (bs s), .int .i64 x] w fun e w' => e = .returned (.tuple #[]) ∧ Row w' R 170 [vb, .int .i64 ((k + s.length : Nat) : Int)] ∧ w.grownBy w' (some R) := by
  have HR := Lib.hid he.row
  have HPos := he.pos
  have HLen := he.len
  obtain ⟨aa, bb, oo, cc, rfl, ha, hc⟩ := he.sl
  have ha' := ha HPos
  subst ha'
  have hcap := he.cap _ _ _ rfl
  have hcv : ∀ y : World, Keeps w y → (convert 23 9 (.slice (some ⟨bb, oo + k, none⟩) s.length (cc - k))).run Tryz.prog y = .ok (.string (bs s)) y := fun y hy => by
    have h := conv_txt (w := y) (B := bb) (o := oo + k) (c := cc - k) (l := txt b k s.length) (fun j z hj => by
      rw [txt, List.getElem?_take] at hj
      split at hj
      · rw [List.getElem?_drop] at hj
        have h2 := RByte.stays _ _ hy _ _ _ (hc (k + j) z hj)
        rw [Nat.mul_one, ← Nat.add_assoc] at h2
        exact h2
      · cases hj)
    rw [txt_len hk, hs] at h
    exact h
  have HCv := Lib.hid hcv
  obtain ⟨m, hm⟩ : ∃ m, b.length = m := ⟨_, rfl⟩
  obtain ⟨n, hnn⟩ : ∃ n, s.length = n := ⟨_, rfl⟩
  obtain ⟨sb, hsb⟩ : ∃ y, bs s = y := ⟨_, rfl⟩
  have hsz : sb.size = n := by rw [← hsb, ← hnn, bs_size]
  have hq : (sb.toList == sb.toList) = true := by simp
  rw [hm] at HR HPos HLen hk hcap ⊢
  rw [hnn] at hk hn HCv ⊢
  rw [hsb] at HCv ⊢
  have hcv2 : ∀ y : World, y.heap = w.heap → (convert 23 9 (.slice (some ⟨bb, oo + k, none⟩) n (cc - k))).run Tryz.prog y = .ok (.string sb) y := fun y hy => HCv.out y (fun b o v h => by simpa [World.cell?, hy] using h)
  have HCv2 := Lib.hid hcv2
  have r0 := (show w.cell? ⟨R, 0, none⟩ = some (.slice (some ⟨bb, oo, none⟩) m cc) from HR.out.cell 0)
  have r1 := (show w.cell? ⟨R, 1, none⟩ = some (.int .i64 (k : Int)) from HR.out.cell 1)
  have k0 : (0 : Int) ≤ k := Int.natCast_nonneg _
  have k1 : (k : Int) ≤ (k : Int) + n := by omega
  have k2 : (k : Int) + n ≤ cc := by omega
  have k3 : (0 : Int) ≤ (k : Int) + n := by omega
  have k4 : ¬ cc = k := by omega
  have k5 : k + n - k = n := by omega
  clear he ha hc hm hnn hsb hs hcv hcv2
  go_enter Tryz.func81, Tryz.ntmps81
  go_wp2_with fail
  obtain ⟨S, hS⟩ : ∃ S : World → Prop, ∀ y, S y ↔ (y.heap = w.heap ∧ Below w.heap.size w y) := ⟨_, fun _ => Iff.rfl⟩
  have HS0 : S w.drew := (hS _).2 ⟨rfl, below_drew w⟩
  haveI : Nonempty (Wd S) := ⟨⟨_, HS0⟩⟩
  have q0 : ∀ y : Wd S, y.val.cell? ⟨R, 0, none⟩ = some (.slice (some ⟨bb, oo, none⟩) m cc) := fun y => by rw [World.cell?, ((hS _).1 y.ok).1]; exact r0
  have q1 : ∀ y : Wd S, y.val.cell? ⟨R, 1, none⟩ = some (.int .i64 (k : Int)) := fun y => by rw [World.cell?, ((hS _).1 y.ok).1]; exact r1
  have q2 : ∀ y : Wd S, (convert 23 9 (.slice (some ⟨bb, oo + k, none⟩) n (cc - k))).run Tryz.prog y.val = .ok (.string sb) y.val := fun y => HCv2.out _ ((hS _).1 y.ok).1
  have HSi := Lib.hid (fun y : Wd S => ((hS _).1 y.ok))
  have HS0h := Lib.hid HS0
  clear HS0 hS r0 r1
  refine wp_region_class S (by kernel_rfl) (by kernel_rfl) HS0h.out ?_
  repeat (first | go_big_quiet_skip | (go_big_quiet_want; go_big_quiet_op; first | go_big_quiet_on | go_big_quiet_call ((go_at_call 79; refine (call_must_ok x _).mono ?_; rintro e w2 ⟨rfl, rfl⟩; exact ⟨rfl, ⟨_, rfl⟩⟩))))
  refine wpQuiet_nil ?_
  rintro _ ⟨y, rfl⟩
  have HY := Lib.hid (HSi.out y)
  have hRy : Row y.val R 170 [.slice (some ⟨bb, oo, none⟩) m cc, .int .i64 (k : Int)] := by
    have h : y.val.heap[R]? = w.heap[R]? := by rw [HY.out.1]
    exact h.trans HR.out
  have HRy := Lib.hid hRy
  clear hRy
  have r1 := q1 y
  have r2 := HRy.out.free 1
  clear q0 q1 q2
  generalize y.val = wy at *
  go_wp2
  go_end0
  exact ⟨rfl, by have h := HRy.out.set 1 (.int .i64 ((k : Int) + n)); rw [Int.natCast_add]; exact h, grown_set (grown_of_below HY.out.2 _) 1 _⟩

theorem call_fit1 (w : World) : Calls Tryz.prog 23 #[.agg #[.int .i64 24, .int .i64 8, .int .i64 1]] w fun e w' => e = .returned (.tuple #[.agg #[.int .i64 24, .int .i64 8, .int .i64 1, .int .i64 5], .int .i64 0]) ∧ Below w.heap.size w w' := by
  go_enter Tryz.func23, Tryz.ntmps23
  go_wp2
  refine ⟨rfl, .tuple #[.agg #[.int .i64 24, .int .i64 8, .int .i64 1, .int .i64 5], .int .i64 0], by simp [results, Tryz.results23, go_sem], rfl, ?_⟩
  exact below_alloc2 w _ _
end Go.Proofs.YtgoogbakhhbnhaaGreatDoor.Ar
