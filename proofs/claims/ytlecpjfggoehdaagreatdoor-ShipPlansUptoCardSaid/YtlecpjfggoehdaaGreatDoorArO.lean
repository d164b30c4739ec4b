
/- Archive: a path's names, the reference's. -/
import Derived.Test.YtlecpjfggoehdaaGreatDoorArL
set_option linter.unusedVariables false
set_option linter.unusedSimpArgs false
set_option maxRecDepth 100000
namespace Go.Proofs.YtlecpjfggoehdaaGreatDoor.Ar
open Go.RowKit Go.Sort Go.Lib Go.Proofs.YtlecpjfggoehdaaGreatDoor.Rs

def strV (s : List UInt8) : Value := .string (bs s)
/-- append of one text to a row of texts of one's own -/
theorem wpl_appS {ops : Array Oper} {rest : List Oper} {o : Oper} {a : Act} {Q : Exit → Act → World → Prop} {w : World} {base : Nat} {v : Value} {L : List (List UInt8)} (hown : w.ownsRow base 9 1 v L.length (L.map strV)) (hgd : o.guard = none) (s x : Operand)
    (ho : o.op = .call { callee := .builtin .append, args := #[s, x], argTypes := #[92, 92] }) (hs : a.eval s = v) (g : Nat) (t : List UInt8) (hx : a.eval x = .slice (some ⟨g, 0, none⟩) 1 1) (hc : w.cell? ⟨g, 0, none⟩ = some (.string (bs t)))
    (hbase : base ≤ w.heap.size) (hn : L.length ≤ 1000000)
    (h : ∀ v' w', w'.ownsRow base 9 1 v' (L ++ [t]).length ((L ++ [t]).map strV) → Below base w w' → wpList Tryz.prog ops Q rest (a.put o.dst v') w') : wpList Tryz.prog ops Q (o :: rest) a w := by
  obtain ⟨i0, hi, hz0, hz1, hz2⟩ := info_parts info9
  refine wpList_append_own w hgd s x 92 ho base 9 i0 (.string ⟨#[]⟩) 1 16 Tryz.underlying92 hi hz0 hz1 hz2 rfl (by decide) v L.length (L.map strV) hs hown ⟨g, 0, none⟩ 1 1 [strV t] hx rfl (fun j u hj => ?_) (fun u hu => ?_) (by simp only [maxLen]; omega) (by omega) hbase (fun v' w' h1 h2 _ => h v' w' ?_ (below_grown hown h2 (Nat.le_refl _) hbase))
  · match j with
    | 0 => cases hj; rw [add0]; exact hc
    | j + 1 => simp at hj
  · rw [List.mem_singleton.1 hu]; rfl
  · rw [List.length_append, List.map_append]; exact h1

set_option maxHeartbeats 2000000 in
theorem call_rnames (p : List UInt8) (hp : p.length ≤ 1048576) (w : World) :
    Calls Tryz.prog 81 #[.string (bs p)] w fun e w' => (∃ v, e = .returned (.tuple #[v, .bool (namesB p).isSome]) ∧ NmV w' v (namesB p)) ∧ Below w.heap.size w w' := by
  obtain ⟨n, hn⟩ : ∃ n, p.length = n := ⟨_, rfl⟩
  have z0 : (bs p).size = n := (bs_size p).trans hn
  by_cases h2 : 199 < n
  · have hv : namesB p = none := by rw [namesB, if_pos (by omega)]
    rw [hv]
    clear hv
    go_enter Tryz.func81, Tryz.ntmps81
    go_wp2
    go_ret2
    exact ⟨⟨_, rfl, rfl⟩, Below.refl _ _⟩
  · have hv : namesB p = if (split47 p).all validB then some (split47 p) else none := by rw [namesB, if_neg (by omega)]
    have HV := Lib.hid hv
    have HN := Lib.hid hn
    have O0 : Hid ((w.alloc (.cells #[] 9)).ownsRow w.heap.size 9 1 (.slice (some ⟨w.heap.size, 0, none⟩) 0 0) ([] : List (List UInt8)).length (([] : List (List UInt8)).map strV)) := Lib.hid (World.ownsRow_made w #[] 0 (e := 9) (size := 1) (Nat.le_refl _) (by simp [maxLen]) rfl)
    clear hv hn
    have hn199 : n ≤ 199 := by omega
    go_enter Tryz.func81, Tryz.ntmps81
    go_wp2
    go_loopw [4, 5, 6] (fun v fv i wr => ∃ (k f : Nat) (L : List (List UInt8)), i = .int .i64 k ∧ fv = .int .i64 f ∧ f ≤ k ∧ k ≤ n + 1 ∧ L.length ≤ k ∧ L.all validB = true ∧
        split47 p = (if k = n + 1 then L else L ++ glue ((p.drop f).take (k - f)) (split47 (p.drop k))) ∧ wr.ownsRow w.heap.size 9 1 v L.length (L.map strV) ∧ Below w.heap.size w wr)
      (fun _ _ i _ => n + 1 - (RowKit.intOf i).toNat)
    case atStart => exact ⟨0, 0, [], rfl, rfl, Nat.le_refl _, by omega, Nat.le_refl _, rfl, by rw [if_neg (by omega)]; simp [glue_nil (split47_ne p)], O0.out, below_alloc1 w _⟩
    case round =>
      obtain ⟨k, f, L, rfl, rfl, hfk, hk, hLk, hall, hsp, ho, hb⟩ := hrel
      clear O0
      have HA := Lib.hid hall
      have HSp := Lib.hid hsp
      have HO := Lib.hid ho
      have HB := Lib.hid hb
      clear hall hsp ho hb
      by_cases hlt : k ≤ n
      · have HSp2 : Hid (split47 p = L ++ glue ((p.drop f).take (k - f)) (split47 (p.drop k))) := by
          have h := HSp.out
          rw [if_neg (by omega)] at h
          exact h
        obtain ⟨cur, hcur⟩ : ∃ c, (p.drop f).take (k - f) = c := ⟨_, rfl⟩
        have hx : (bs p).extract f k = bs cur := by rw [bs_extract, hcur]
        have hcl : cur.length ≤ 1048576 := by rw [← hcur, List.length_take, List.length_drop]; omega
        have HCur := Lib.hid hcur
        have HCl := Lib.hid hcl
        clear hcur hcl
        -- a piece is complete: what follows
        by_cases hend : k = n
        · have hSE : split47 p = L ++ [cur] := by
            rw [HSp2.out, HCur.out, hend, List.drop_of_length_le (by have := HN.out; omega)]
            simp [split47, glue]
          have HSE := Lib.hid hSE
          clear hSE
          subst hend
          cases hvs : validB cur with
          | false =>
            have hv2 : namesB p = none := by rw [HV.out, HSE.out, if_neg (by rw [List.all_append]; simp [hvs])]
            have HV2 := Lib.hid hv2
            have HVS := Lib.hid hvs
            clear hv2 hvs
            go_wp2_with (go_at_call 100; refine (call_rvalid cur HCl.out _).mono ?_; rintro e w1 ⟨rfl, rfl⟩; rw [HVS.out])
            go_ret2
            exact ⟨⟨_, by rw [HV2.out]; rfl, by rw [HV2.out]; rfl⟩, HB.out⟩
          | true =>
            have HVS := Lib.hid hvs
            have HO1 := Lib.hid (HO.out.alloc (.cells #[.string (bs cur)] 9))
            have HC1 : Hid ((wr.alloc (.cells #[.string (bs cur)] 9)).cell? ⟨wr.heap.size, 0, none⟩ = some (.string (bs cur))) := Lib.hid ((Row.new wr 9 [.string (bs cur)]).cell 0)
            have HB1 := Lib.hid (HB.out.alloc HB.out.size (.cells #[.string (bs cur)] 9))
            clear hvs
            go_wp2_with (first
              | (go_at_call 100; refine (call_rvalid cur HCl.out _).mono ?_; rintro e w1 ⟨rfl, rfl⟩; rw [HVS.out])
              | (refine wpl_appS HO1.out rfl _ _ rfl rfl w1.heap.size cur rfl HC1.out HB1.out.size (by omega) ?_; intro v' w' h1 h2; have HO2 := Lib.hid h1; have HB2 := Lib.hid (HB1.out.trans h2); clear h1 h2 HO1 HC1))
            go_roundw
            case rel =>
              refine ⟨k + 1, k + 1, L ++ [cur], by go_num, by go_num, Nat.le_refl _, by omega, by simp; omega, by rw [List.all_append, HA.out]; simp [HVS.out], ?_, HO2.out, HB2.out⟩
              rw [if_pos rfl]; exact HSE.out
            case measure => simp [RowKit.intOf]
        · obtain ⟨c, hc⟩ : ∃ c, p[k]? = some c := ⟨_, List.getElem?_eq_getElem (by have := HN.out; omega)⟩
          have hg := bs_get hc
          have hdr : p.drop k = c :: p.drop (k + 1) := by
            obtain ⟨h1, h2⟩ := List.getElem?_eq_some_iff.1 hc
            rw [List.drop_eq_getElem_cons h1, h2]
          have HDr := Lib.hid hdr
          have HC := Lib.hid hc
          have hnb : ((k : Int) == n) = false := by rw [beq_eq_false_iff_ne]; omega
          clear hc hdr
          by_cases c0 : c.toNat = 47
          · have hc47 : c = 47 := UInt8.toNat_inj.1 c0
            have b0 : ((c.toNat : Int) == 47) = true := by rw [c0]; rfl
            have hSE : split47 p = L ++ cur :: split47 (p.drop (k + 1)) := by
              rw [HSp2.out, HCur.out, HDr.out, split47, if_pos hc47]
              simp [glue]
            have HSE := Lib.hid hSE
            clear hSE hc47
            cases hvs : validB cur with
            | false =>
              have hv2 : namesB p = none := by rw [HV.out, HSE.out, if_neg (by rw [List.all_append]; simp [hvs])]
              have HV2 := Lib.hid hv2
              have HVS := Lib.hid hvs
              clear hv2 hvs
              go_wp2_with (go_at_call 100; refine (call_rvalid cur HCl.out _).mono ?_; rintro e w1 ⟨rfl, rfl⟩; rw [HVS.out])
              go_ret2
              exact ⟨⟨_, by rw [HV2.out]; rfl, by rw [HV2.out]; rfl⟩, HB.out⟩
            | true =>
              have HVS := Lib.hid hvs
              have HO1 := Lib.hid (HO.out.alloc (.cells #[.string (bs cur)] 9))
              have HC1 : Hid ((wr.alloc (.cells #[.string (bs cur)] 9)).cell? ⟨wr.heap.size, 0, none⟩ = some (.string (bs cur))) := Lib.hid ((Row.new wr 9 [.string (bs cur)]).cell 0)
              have HB1 := Lib.hid (HB.out.alloc HB.out.size (.cells #[.string (bs cur)] 9))
              clear hvs
              go_wp2_with (first
                | (go_at_call 100; refine (call_rvalid cur HCl.out _).mono ?_; rintro e w1 ⟨rfl, rfl⟩; rw [HVS.out])
                | (refine wpl_appS HO1.out rfl _ _ rfl rfl w1.heap.size cur rfl HC1.out HB1.out.size (by omega) ?_; intro v' w' h1 h2; have HO2 := Lib.hid h1; have HB2 := Lib.hid (HB1.out.trans h2); clear h1 h2 HO1 HC1))
              go_roundw
              case rel =>
                refine ⟨k + 1, k + 1, L ++ [cur], by go_num, by go_num, Nat.le_refl _, by omega, by simp; omega, by rw [List.all_append, HA.out]; simp [HVS.out], ?_, HO2.out, HB2.out⟩
                rw [if_neg (by omega), Nat.sub_self, List.take_zero, glue_nil (split47_ne _), List.append_assoc]; exact HSE.out
              case measure => simp [RowKit.intOf]; omega
          · have hc47 : ¬ c = 47 := fun e => c0 (by rw [e]; rfl)
            have b0 : ((c.toNat : Int) == 47) = false := by rw [beq_eq_false_iff_ne]; omega
            have hSE : split47 p = L ++ glue ((p.drop f).take (k + 1 - f)) (split47 (p.drop (k + 1))) := by
              rw [HSp2.out, HDr.out, split47, if_neg hc47, glue_glue]
              congr 2
              have e : (p.drop f)[k - f]? = some c := by rw [List.getElem?_drop, Nat.add_sub_cancel' hfk]; exact HC.out
              rw [show k + 1 - f = (k - f) + 1 by omega, List.take_add_one, e]
              rfl
            have HSE := Lib.hid hSE
            clear hSE hc47
            go_wp2
            go_roundw
            case rel => exact ⟨k + 1, f, L, by go_num, rfl, by omega, by omega, by omega, HA.out, by rw [if_neg (by omega)]; exact HSE.out, HO.out, HB.out⟩
            case measure => simp [RowKit.intOf]; omega
      · obtain rfl : k = n + 1 := by omega
        have hv2 : namesB p = some L := by
          have h := HSp.out
          rw [if_pos rfl] at h
          rw [HV.out, h, if_pos HA.out]
        have HV2 := Lib.hid hv2
        have hL0 : 0 < L.length := by
          have h := HSp.out
          rw [if_pos rfl] at h
          rw [← h]
          exact List.length_pos_iff.2 (split47_ne p)
        have HL0 := Lib.hid hL0
        clear hv2 hL0
        go_wp2
        go_ret2
        refine ⟨⟨_, by rw [HV2.out]; rfl, ?_⟩, HB.out⟩
        rw [HV2.out]
        obtain ⟨g, c, rfl, _, hlc, hcell⟩ := own_cells HO.out HL0.out
        exact ⟨g, c, rfl, hlc, fun j s hj => hcell j _ (by rw [List.getElem?_map, hj]; rfl)⟩
end Go.Proofs.YtlecpjfggoehdaaGreatDoor.Ar
