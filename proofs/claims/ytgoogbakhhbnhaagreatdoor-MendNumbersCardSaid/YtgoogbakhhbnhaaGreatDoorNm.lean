/-
  Mend: the bytes of the image (plain).
-/
import Derived.Test.YtgoogbakhhbnhaaGreatDoorNl
import Derived.Laws.CopyOwn
set_option linter.unusedVariables false
set_option linter.unusedSimpArgs false
set_option maxRecDepth 100000
namespace Go.Proofs.YtgoogbakhhbnhaaGreatDoor.Ar
open Go.RowKit Go.Sort Go.Lib Go.Proofs.YtgoogbakhhbnhaaGreatDoor.Rs
def x1 : Int := 7700457817165005058
def x5 : Int := 12345310328966349058
def imgL : List UInt8 := supL ++ (supL ++ (List.replicate 1920 0 ++ (wordsB [x1, 0, 0] ++ (List.replicate 232 0 ++ (wordsB [x5, 0, 0] ++ List.replicate 9960 0)))))
theorem seal_x1 : sealI 2048 258 = x1 := by kernel_rfl
theorem seal_x5 : sealI 2304 258 = x5 := by kernel_rfl
theorem img_len : imgL.length = 12288 := by kernel_rfl
theorem img_sup : txt imgL 0 64 = supL := by kernel_rfl
theorem img_undo : leN (txt imgL 512 512) 0 8 = 0 := by kernel_rfl
theorem sup_ok : SupB supL := by
  refine ⟨by kernel_rfl, by kernel_rfl, by kernel_rfl, by kernel_rfl, by kernel_rfl, by kernel_rfl, ?_⟩
  have h : ((List.range 40).all fun j => decide (byteD supL (20 + j) = 0)) = true := by kernel_rfl
  intro j hj
  exact of_decide_eq_true (List.all_eq_true.1 h j (List.mem_range.2 hj))
theorem img_ok : Img imgL := by
  refine ⟨img_len, ?_, ?_⟩
  · rw [img_sup]; exact sup_ok
  · rw [img_undo]; kernel_rfl
theorem slot_free (n p : Nat) (vb : Value) (n0 : 1 ≤ n) (n1 : n ≤ 8) (hp : p = 2048 + (n - 1) * 64) (h : leN imgL p 8 = 0) : SlotIs vb imgL n 0 0 := fun W hst hv =>
  call_slotOf imgL n p 0 0 0 0 vb W n0 (by omega) hp (by rw [img_len]; omega) (by rw [img_len]; omega) hv hst (fun W' hst' => call_openSlot_none n _ _ _ W' n0 (by omega) (by omega) (by rw [h]; decide) (by rw [h]; simp [unsealI, sealI]) hst')
theorem slot_dir (n p : Nat) (x : Nat) (vb : Value) (n0 : 1 ≤ n) (n1 : n ≤ 8) (hp : p = 2048 + (n - 1) * 64) (h : leN imgL p 8 = x) (hx : x < 18446744073709551616) (hu : unsealI (2048 + (n - 1) * 64) x = some 258) (h2 : leN imgL (p + 16) 8 = 0) : SlotIs vb imgL n 2 1 := fun W hst hv =>
  call_slotOf imgL n p 2 1 0 0 vb W n0 (by omega) hp (by rw [img_len]; omega) (by rw [img_len]; omega) hv hst (fun W' hst' => call_openSlot_dir n _ _ _ W' n0 (by omega) (by omega) (by rw [h]; omega) (by omega) (by rw [h2]; decide) (by rw [h]; exact hu) (by rw [h2]; simp [unsealI, sealI]) hst')
theorem img_e : ImgE imgL := by
  refine ⟨img_ok, ?_, ?_⟩
  · intro n vb h1 h8 n1 n5
    have hk : ((List.range 9).all fun j => (decide (j = 0 ∨ j = 1 ∨ j = 5)) || decide (leN imgL (2048 + (j - 1) * 64) 8 = 0)) = true := by kernel_rfl
    have h := List.all_eq_true.1 hk n (List.mem_range.2 (by omega))
    simp only [Bool.or_eq_true, decide_eq_true_eq] at h
    exact slot_free n _ vb h1 h8 rfl (h.resolve_left (by omega))
  · rintro n vb (rfl | rfl)
    · exact slot_dir 1 2048 7700457817165005058 vb (by decide) (by decide) rfl (by kernel_rfl) (by decide) (by kernel_rfl) (by kernel_rfl)
    · exact slot_dir 5 2304 12345310328966349058 vb (by decide) (by decide) rfl (by kernel_rfl) (by decide) (by kernel_rfl) (by kernel_rfl)
theorem splice_mid {α : Type} (A B C cs : List α) (k : Nat) (hk : A.length = k) (hb : cs.length = B.length) : splice (A ++ (B ++ C)) k cs = A ++ (cs ++ C) := by
  subst hk
  rw [splice, List.take_left, hb, ← List.length_append, ← List.append_assoc A B C, List.drop_left]
theorem splices (z : Value) (S b1 b5 : List Value) (hS : S.length = 64) (h1 : b1.length = 24) (h5 : b5.length = 24) :
    splice (splice (splice (splice (List.replicate 12288 z) 0 S) 64 S) 2048 b1) 2304 b5 = S ++ (S ++ (List.replicate 1920 z ++ (b1 ++ (List.replicate 232 z ++ (b5 ++ List.replicate 9960 z))))) := by
  have e : List.replicate 12288 z = [] ++ (List.replicate 64 z ++ (List.replicate 64 z ++ (List.replicate 1920 z ++ (List.replicate 24 z ++ (List.replicate 232 z ++ (List.replicate 24 z ++ List.replicate 9960 z)))))) := by
    simp only [List.nil_append, List.replicate_append_replicate]
  rw [e, splice_mid [] _ _ S 0 rfl (by simp [hS])]
  rw [List.nil_append, splice_mid S _ _ S 64 hS (by simp [hS])]
  rw [show S ++ (S ++ (List.replicate 1920 z ++ (List.replicate 24 z ++ (List.replicate 232 z ++ (List.replicate 24 z ++ List.replicate 9960 z))))) = (S ++ (S ++ List.replicate 1920 z)) ++ (List.replicate 24 z ++ (List.replicate 232 z ++ (List.replicate 24 z ++ List.replicate 9960 z))) by simp only [List.append_assoc]]
  rw [splice_mid _ _ _ b1 2048 (by simp [hS]) (by simp [h1])]
  rw [show (S ++ (S ++ List.replicate 1920 z)) ++ (b1 ++ (List.replicate 232 z ++ (List.replicate 24 z ++ List.replicate 9960 z))) = (S ++ (S ++ (List.replicate 1920 z ++ (b1 ++ List.replicate 232 z)))) ++ (List.replicate 24 z ++ List.replicate 9960 z) by simp only [List.append_assoc]]
  rw [splice_mid _ _ _ b5 2304 (by simp [hS, h1]) (by simp [h5])]
  simp only [List.append_assoc]
theorem img_cells : splice (splice (splice (splice (List.replicate 12288 (.int .u8 0)) 0 (supL.map byteV)) 64 (supL.map byteV)) 2048 ((wordsB [x1, 0, 0]).map byteV)) 2304 ((wordsB [x5, 0, 0]).map byteV) = imgL.map byteV := by
  rw [splices _ _ _ _ (by rw [List.length_map]; exact closeB_len _ (by rfl)) (by rfl) (by rfl)]
  simp only [imgL, List.map_append, List.map_replicate]
  rfl
end Go.Proofs.YtgoogbakhhbnhaaGreatDoor.Ar
