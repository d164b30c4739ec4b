/- RunStates: the reference's State. -/
import Derived.Test.YtlecpjfggoehdaaDoorRsF
set_option linter.unusedVariables false
set_option linter.unusedSimpArgs false
namespace Go.Proofs.YtlecpjfggoehdaaDoor.Rs
open Go.RowKit Go.Sort Go.Lib

def rshape (t : St) : List UInt8 := (([32, 32, 115, 104, 97, 112, 101]) ++ (rnums [t.pages, t.inodes, t.cores])) ++ ([10])
def rlineB (n : Nd) : List UInt8 := rnode n ++ [10]
def rlines (t : St) : List UInt8 := rshape t ++ (t.nodes.map rlineB).flatten
def rstate (t : St) : List UInt8 := rlines t ++ [32, 32, 102, 114, 101, 101] ++ (t.free.map spB).flatten
theorem rnode_le {w : World} {n : Nd} {vm vn vl : Value} (hv : NdV w n vm vn vl) : (rnode n).length ≤ 300 + 100 * n.wt := by
  have k9 := rfront_le hv.ino hv.links hv.size hv.head hv.tail hv.entries
  have k10 : (rnums n.log).length ≤ 22 * n.log.length := rnums_le (fun x hx => by obtain ⟨a, b, o, c, e, _, h⟩ := hv.log; obtain ⟨j, hj, rfl⟩ := List.getElem_of_mem hx; exact (h j _ (List.getElem?_eq_getElem hj)).2)
  have k11 : (n.map.map rnB).flatten.length ≤ 70 * n.map.length := by
    have := flat_le (l := n.map.map rnB) (m := 70) (fun x hx => by obtain ⟨y, hy, rfl⟩ := List.mem_map.1 hx; obtain ⟨a, b, o, c, e, _, h⟩ := hv.map; obtain ⟨j, hj, rfl⟩ := List.getElem_of_mem hy; exact rnB_le (h j _ (List.getElem?_eq_getElem hj)).2.2.2)
    simpa using this
  have k12 : (n.names.map dnB).flatten.length ≤ 100 * (n.names.map fun d => d.name.length + 1).sum :=
    flat_sum dnB (fun d => d.name.length + 1) 100 n.names (fun x hx => by obtain ⟨a, b, o, c, e, _, h⟩ := hv.names; obtain ⟨j, hj, rfl⟩ := List.getElem_of_mem hx; exact dnB_le' (h j _ (List.getElem?_eq_getElem hj)).2.2)
  have e1 : (rlog n).length ≤ 210 + 22 * n.log.length := by
    unfold rlog; split
    · omega
    · simp only [List.length_append, List.length_cons, List.length_nil]; omega
  have e2 : (rmap n).length ≤ 220 + 22 * n.log.length + 70 * n.map.length := by
    unfold rmap; split
    · simp only [List.length_append, List.length_cons, List.length_nil]; omega
    · omega
  unfold rnode Nd.wt; split
  · simp only [List.length_append, List.length_cons, List.length_nil]; omega
  · omega
theorem StV.wt1 {w : World} {t : St} {vn vf : Value} (h : StV w t vn vf) {n : Nd} (hn : n ∈ t.nodes) : n.wt ≤ 1048576 := Nat.le_trans (sum_le_of_mem (List.mem_map_of_mem (f := Nd.wt) hn)) h.wt
theorem sum_take (f : Nd → Nat) (l : List Nd) (k : Nat) : ((l.take k).map f).sum ≤ (l.map f).sum := by
  induction l generalizing k with
  | nil => simp
  | cons x l ih =>
    cases k with
    | zero => simp
    | succ k => have := ih k; simp only [List.take_succ_cons, List.map_cons, List.sum_cons]; omega
theorem sum_wt (l : List Nd) : (l.map fun n => n.wt + 4).sum = (l.map Nd.wt).sum + 4 * l.length := by
  induction l with
  | nil => simp
  | cons x l ih => simp only [List.map_cons, List.sum_cons, List.length_cons, ih]; omega
theorem StV.lines {w : World} {t : St} {vn vf : Value} (h : StV w t vn vf) (k : Nat) : (((t.nodes.take k).map rlineB).flatten).length ≤ 600000000 := by
  have h1 := flat_sum rlineB (fun n => n.wt + 4) 100 (t.nodes.take k) (fun x hx => by
    obtain ⟨a, b, o, c, e, _, g⟩ := h.nodes
    obtain ⟨j, hj, rfl⟩ := List.getElem_of_mem (List.mem_of_mem_take hx)
    obtain ⟨vm, vn, vl, _, _, _, _, _, _, _, _, _, _, hv⟩ := g j _ (List.getElem?_eq_getElem hj)
    have := rnode_le hv
    simp only [rlineB, List.length_append, List.length_cons, List.length_nil]
    omega)
  have h2 := sum_take (fun n => n.wt + 4) t.nodes k
  have h3 := sum_wt t.nodes
  have h4 := h.wt
  have h5 := h.many
  omega

abbrev SpR (w : World) (t : St) (vn vf : Value) (b o : Nat) (r : Sp) (w' : World) : Prop :=
  w'.cell? ⟨b, o, none⟩ = some (.int .i64 r.frm) ∧ w'.cell? ⟨b, o + 1, none⟩ = some (.int .i64 r.count) ∧ StS w t vn vf w'
section
variable {w w' w1 : World} {t : St} {vn vf : Value} {b o : Nat} {r : Sp}
theorem SpR.mk' (k : StS w t vn vf w') (h0 : w'.cell? ⟨b, o, none⟩ = some (.int .i64 r.frm)) (h1 : w'.cell? ⟨b, o + 1, none⟩ = some (.int .i64 r.count)) : SpR w t vn vf b o r w' := ⟨h0, h1, k⟩
theorem SpR.st (h : SpR w t vn vf b o r w') : StS w t vn vf w' := h.2.2
theorem SpR.drew (h : SpR w t vn vf b o r w') : SpR w t vn vf b o r w'.drew := ⟨h.1, h.2.1, st_cells h.st.box.drew⟩
theorem SpR.step (h : SpR w t vn vf b o r w') (hb : Below w'.heap.size w' w1) : SpR w t vn vf b o r w1 := ⟨keeps_below hb _ _ _ h.1, keeps_below hb _ _ _ h.2.1, st_cells (h.st.box.step hb)⟩
end
set_option maxHeartbeats 4000000 in
set_option maxRecDepth 100000 in
theorem call_rstate (t : St) (vn vf : Value) (w : World) (hv : StV w t vn vf) (hp : Pow w) :
    Calls Tryd.prog 11 #[.agg #[(.int .i64 t.pages), (.int .i64 t.inodes), (.int .i64 t.cores), (.int .i64 t.data), vn, vf]] w fun e w' => e = .returned (.string (bs (rstate t))) ∧ Below w.heap.size w w' := by
  obtain ⟨mn, hmn⟩ : ∃ m, t.nodes.length = m := ⟨_, rfl⟩
  obtain ⟨mf, hmf⟩ : ∃ m, t.free.length = m := ⟨_, rfl⟩
  obtain ⟨an, cn, rfl⟩ : ∃ a c, vn = .slice a mn c := by obtain ⟨a, b, o, c, e, _⟩ := hv.nodes; rw [hmn] at e; exact ⟨a, c, e⟩
  obtain ⟨af, cf, rfl⟩ : ∃ a c, vf = .slice a mf c := by obtain ⟨a, b, o, c, e, _⟩ := hv.free; rw [hmf] at e; exact ⟨a, c, e⟩
  have HN := Lib.hid hmn
  have HF := Lib.hid hmf
  have bl1 : mn ≤ 1048576 := hmn ▸ hv.many
  have bl2 : mf ≤ 1048576 := hmf ▸ hv.spans
  have B0 := Lib.hid (Box.new w 27 [(.int .i64 t.pages), (.int .i64 t.inodes), (.int .i64 t.cores), (.int .i64 t.data), .slice an mn cn, .slice af mf cf])
  have B0' := Lib.hid (B0.out.alloc (.cells #[.int .i64 t.pages, .int .i64 t.inodes, .int .i64 t.cores] 3))
  have HS : Hid (Sl RInt 1 ((w.alloc (.cells #[(.int .i64 t.pages), (.int .i64 t.inodes), (.int .i64 t.cores), (.int .i64 t.data), .slice an mn cn, .slice af mf cf] 27)).alloc (.cells #[.int .i64 t.pages, .int .i64 t.inodes, .int .i64 t.cores] 3)) (.slice (some ⟨w.heap.size + 1, 0, none⟩) 3 3) [t.pages, t.inodes, t.cores]) := by
    have hr := Row.new (w.alloc (.cells #[(.int .i64 t.pages), (.int .i64 t.inodes), (.int .i64 t.cores), (.int .i64 t.data), .slice an mn cn, .slice af mf cf] 27)) 3 [.int .i64 t.pages, .int .i64 t.inodes, .int .i64 t.cores]
    refine ⟨_, w.heap.size + 1, 0, _, rfl, fun _ => rfl, fun j x hx => ?_⟩
    simp only [World.size_alloc] at hr
    have hc := hr.cell j
    match j, hx with
    | 0, hx => cases hx; exact ⟨hc, hv.pages⟩
    | 1, hx => cases hx; exact ⟨hc, hv.inodes⟩
    | 2, hx => cases hx; exact ⟨hc, hv.cores⟩
    | j + 3, hx => simp at hx
  have HPq := Lib.hid (hp.below (((Below.refl w.heap.size w).alloc (Nat.le_refl _) (.cells #[(.int .i64 t.pages), (.int .i64 t.inodes), (.int .i64 t.cores), (.int .i64 t.data), .slice an mn cn, .slice af mf cf] 27)).alloc (by simp) (.cells #[.int .i64 t.pages, .int .i64 t.inodes, .int .i64 t.cores] 3)))
  have HP := Lib.hid hp
  have HV := Lib.hid hv
  have k1 : (rnums [t.pages, t.inodes, t.cores]).length ≤ 100 := by
    have := rnums_le (xs := [t.pages, t.inodes, t.cores]) (fun x hx => by simp only [List.mem_cons, List.mem_nil_iff, or_false] at hx; rcases hx with rfl | rfl | rfl; exact hv.pages; exact hv.inodes; exact hv.cores)
    simp only [List.length_cons, List.length_nil] at this; omega
  have k3 : (rlines t).length ≤ 1000000000 := by
    have h1 := hv.lines t.nodes.length
    rw [List.take_length] at h1
    simp only [rlines, rshape, List.length_append, List.length_cons, List.length_nil]
    omega
  obtain ⟨sa17, ha17, la17, qa17⟩ := sumLB Tryd.prog ([32, 32, 115, 104, 97, 112, 101]) (rnums [t.pages, t.inodes, t.cores]) 107 (by (try simp only [List.length_cons, List.length_nil]); omega) (by omega)
  obtain ⟨sa18, ha18, la18, qa18⟩ := sumBL Tryd.prog (sa17) ([10]) 108 (by (try simp only [List.length_cons, List.length_nil]); omega) (by omega)
  obtain rfl : sa18 = rshape t := by rw [ha18.out, ha17.out]; rfl
  obtain ⟨sd36, hd36, ld36, qd36⟩ := sumBL Tryd.prog (rlines t) ([32, 32, 102, 114, 101, 101]) 1000000006 (by (try simp only [List.length_cons, List.length_nil]); omega) (by omega)
  have k2 : (rshape t).length ≤ 200 := by omega
  clear hp hv hmn hmf
  go_enter Tryd.func11, Tryd.ntmps11
  go_wp2_with fail
  refine (call_rnumbers _ [t.pages, t.inodes, t.cores] _ HS.out (by simp) HPq.out).mono ?_
  rintro e w1 ⟨rfl, hb1⟩
  have hS : StS w t (.slice an mn cn) (.slice af mf cf) w1 := st_cells (B0'.out.step hb1)
  clear hb1 HS HPq B0 B0'
  go_wp2_with fail
  go_loopw [3, 4] (fun v3 i wr => ∃ (k : Nat) (s : List UInt8), v3 = .string (bs s) ∧ i = .int .i64 k ∧ k ≤ mn ∧ Hid (s = rshape t ++ ((t.nodes.take k).map rlineB).flatten) ∧ StS w t (.slice an mn cn) (.slice af mf cf) wr)
    (fun _ i _ => mn - (RowKit.intOf i).toNat)
  case atStart => exact ⟨0, _, rfl, rfl, Nat.zero_le _, by simp [Hid], hS⟩
  case round =>
    obtain ⟨k, s, rfl, rfl, hkm, hs, hS⟩ := hrel
    by_cases hlt : k < mn
    · obtain ⟨r, hr⟩ : ∃ r, t.nodes[k]? = some r := ⟨_, List.getElem?_eq_getElem (by have := HN.out; omega)⟩
      obtain ⟨aa, bb, oo, cc, ee, ha, hc⟩ := HV.out.nodes.keep RNd.stays (keeps_below hS.box.2)
      rw [HN.out] at ee ha
      cases ee
      have ha' := ha (by omega)
      subst ha'
      obtain ⟨vm, vn, vl, m0, m1, m2, m3, m4, m5, m6, m7, m8, m9, hnd⟩ := hc k r hr
      obtain ⟨x1, y1, rfl⟩ : ∃ a c, vm = .slice a r.map.length c := by obtain ⟨a, b, o, c, e, _⟩ := hnd.map; exact ⟨a, c, e⟩
      obtain ⟨x2, y2, rfl⟩ : ∃ a c, vn = .slice a r.names.length c := by obtain ⟨a, b, o, c, e, _⟩ := hnd.names; exact ⟨a, c, e⟩
      obtain ⟨x3, y3, rfl⟩ : ∃ a c, vl = .slice a r.log.length c := by obtain ⟨a, b, o, c, e, _⟩ := hnd.log; exact ⟨a, c, e⟩
      have q1 := rnode_le hnd
      have q2 := HV.out.wt1 (List.mem_of_getElem? hr)
      have q3 := HV.out.lines k
      have q4 : s.length ≤ 1000000000 := by rw [hs.out, List.length_append]; omega
      obtain ⟨sc33, hc33, lc33, qc33⟩ := sumBL Tryd.prog (rnode r) ([10]) 300000001 (by (try simp only [List.length_cons, List.length_nil]); omega) (by omega)
      obtain ⟨sc34, hc34, lc34, qc34⟩ := sumBB Tryd.prog (s) (sc33) 1300000001 (by (try simp only [List.length_cons, List.length_nil]); omega) (by omega)
      obtain rfl : sc34 = s ++ rlineB r := by unfold rlineB; rw [hc34.out, hc33.out]
      have hr' := Lib.hid hr
      have HND := Lib.hid hnd
      clear hr ha hc hnd
      go_wp2_with fail
      refine (call_rnode r _ _ _ _ HND.out (HV.out.small (List.mem_of_getElem? hr'.out)) (HP.out.below hS.box.2)).mono ?_
      rintro e w2 ⟨rfl, hb2⟩
      have hS2 : StS w t (.slice (some ⟨bb, oo, none⟩) mn cn) (.slice af mf cf) w2 := st_cells (hS.box.step hb2)
      clear hb2 hS m0 m1 m2 m3 m4 m5 m6 m7 m8 m9
      go_wp2
      go_roundw
      case rel => exact ⟨k + 1, _, rfl, by go_num, by omega, by show _ = _; rw [hs.out, take_map_succ hr'.out]; simp, hS2⟩
      case measure => simp [RowKit.intOf]; omega
    · obtain rfl : k = mn := by omega
      have e3 : s = rlines t := by rw [hs.out, List.take_of_length_le (by have := HN.out; omega)]; rfl
      subst e3
      have E0 : Hid (sd36 = rlines t ++ [32, 32, 102, 114, 101, 101] ++ ((t.free.take 0).map spB).flatten) := by rw [hd36.out]; simp [Hid]
      go_wp2_with fail
      go_loopw [3, 5] (fun v6 i wx => ∃ (m : Nat) (s : List UInt8), v6 = .string (bs s) ∧ i = .int .i64 m ∧ m ≤ mf ∧ Hid (s = rlines t ++ [32, 32, 102, 114, 101, 101] ++ ((t.free.take m).map spB).flatten) ∧ StS w t (.slice an k cn) (.slice af mf cf) wx)
        (fun _ i _ => mf - (RowKit.intOf i).toNat)
      case atStart => exact ⟨0, _, rfl, rfl, Nat.zero_le _, E0, hS⟩
      case round =>
        clear E0
        obtain ⟨m, s, rfl, rfl, hmm, hs, hS⟩ := hrel
        by_cases hlm : m < mf
        · obtain ⟨r, hr⟩ : ∃ r, t.free[m]? = some r := ⟨_, List.getElem?_eq_getElem (by have := HF.out; omega)⟩
          obtain ⟨aa, bb, oo, cc, ee, ha, hc⟩ := HV.out.free.keep RSp.stays (keeps_below hS.box.2)
          rw [HF.out] at ee ha
          cases ee
          have ha' := ha (by omega)
          subst ha'
          obtain ⟨m0, m1, i0', i1'⟩ := hc m r hr
          have j0 := itoa_le i0'; have j1 := itoa_le i1'
          have ls : s.length ≤ 2000000000 := by
            rw [hs.out]
            have := flat_le (l := (t.free.take m).map spB) (m := 50) (fun x hx => by
              obtain ⟨y, hy, rfl⟩ := List.mem_map.1 hx
              obtain ⟨j, hj, rfl⟩ := List.getElem_of_mem (List.mem_of_mem_take hy)
              exact spB_le (hc j _ (List.getElem?_eq_getElem hj)).2.2.1 (hc j _ (List.getElem?_eq_getElem hj)).2.2.2)
            have h5 := HV.out.spans
            have h6 : ((t.free.take m).map spB).length ≤ t.free.length := by simp; omega
            simp only [List.length_append, List.length_cons, List.length_nil]
            omega
          obtain ⟨sb52, hb52, lb52, qb52⟩ := sumLB Tryd.prog ([32]) (itoa r.frm) 22 (by (try simp only [List.length_cons, List.length_nil]); omega) (by omega)
          obtain ⟨sb53, hb53, lb53, qb53⟩ := sumBL Tryd.prog (sb52) ([43]) 23 (by (try simp only [List.length_cons, List.length_nil]); omega) (by omega)
          obtain ⟨sb61, hb61, lb61, qb61⟩ := sumBB Tryd.prog (sb53) (itoa r.count) 44 (by (try simp only [List.length_cons, List.length_nil]); omega) (by omega)
          obtain ⟨sb62, hb62, lb62, qb62⟩ := sumBB Tryd.prog (s) (sb61) 2000000044 (by (try simp only [List.length_cons, List.length_nil]); omega) (by omega)
          obtain rfl : sb62 = s ++ spB r := by unfold spB; rw [hb62.out, hb61.out, hb53.out, hb52.out]
          have hr' := Lib.hid hr
          have I0 := Lib.hid i0'; have I1 := Lib.hid i1'
          have R0 := Lib.hid (SpR.mk' hS m0 m1)
          have hi0 : (0 : Int) ≤ (m : Int) := by omega
          have hi1 : (m : Int) < (mf : Int) := by omega
          clear hr ha hc i0' i1'
          go_wp2_with fail
          go_region_held3 (fun w' => SpR w t (.slice an k cn) (.slice (some ⟨bb, oo, none⟩) mf cf) bb (oo + m * 2) r w')
            (first | exact SpR.drew R0.out | exact SpR.step ‹SpR w t _ _ _ _ _ _› hb1)
            (first | (go_at_call 32; refine (call_itoa _ (by first | exact I0.out.1 | exact I1.out.1) (by first | exact I0.out.2 | exact I1.out.2) _ (HP.out.below (SpR.st ‹SpR w t _ _ _ _ _ _›).box.2)).mono ?_; rintro e w1 ⟨rfl, hb1⟩))
          have hS' := Lib.hid (SpR.st ‹SpR w t _ _ _ _ _ _›)
          go_wp2
          go_roundw
          case rel => exact ⟨m + 1, _, rfl, by go_num, by omega, by show _ = _; rw [hs.out, take_map_succ hr'.out]; simp, hS'.out⟩
          case measure => simp [RowKit.intOf]; omega
        · obtain rfl : m = mf := by omega
          have HB := Lib.hid hS.box.2
          go_wp2
          go_ret
          exact ⟨by rw [hs.out, List.take_of_length_le (by have := HF.out; omega)]; rfl, HB.out⟩
end Go.Proofs.YtlecpjfggoehdaaDoor.Rs
