/- RunStates: the reference's node. -/
import Derived.Test.YtlecpjfggoehdaaDoorRsE
set_option linter.unusedVariables false
set_option linter.unusedSimpArgs false
namespace Go.Proofs.YtlecpjfggoehdaaDoor.Rs
open Go.RowKit Go.Sort Go.Lib

def rhead (n : Nd) : List UInt8 := ((((((([32, 32, 105, 110, 111, 100, 101, 32]) ++ (itoa n.ino)) ++ ([32])) ++ (kindB n.kind)) ++ ([32])) ++ (itoa n.links)) ++ ([32, 115, 105, 122, 101, 32])) ++ (itoa n.size)
def rfront (n : Nd) : List UInt8 := (rhead n) ++ (((((([32, 104, 101, 97, 100, 32]) ++ (itoa n.head)) ++ ([32, 116, 97, 105, 108, 32])) ++ (itoa n.tail)) ++ ([32, 101, 110, 116, 114, 105, 101, 115, 32])) ++ (itoa n.entries))
def rlog (n : Nd) : List UInt8 := if n.log = [] then rfront n else rfront n ++ ([32, 108, 111, 103] ++ rnums n.log)
def rmap (n : Nd) : List UInt8 := if n.kind = 1 ∧ n.map ≠ [] then rlog n ++ [32, 109, 97, 112] ++ (n.map.map rnB).flatten else rlog n
def rnode (n : Nd) : List UInt8 := if n.kind = 2 ∧ n.names ≠ [] then rmap n ++ ([32, 110, 97, 109, 101, 115] ++ (n.names.map dnB).flatten) else rmap n
theorem rnums_le {xs : List Int} (h : ∀ x ∈ xs, I64 x) : (rnums xs).length ≤ 22 * xs.length := by
  have := flat_le (l := xs.map oneB) (m := 22) (fun y hy => by obtain ⟨z, hz, rfl⟩ := List.mem_map.1 hy; exact oneB_le (h z hz))
  simpa [rnums] using this
theorem rhead_le {n : Nd} (h1 : I64 n.ino) (h2 : I64 n.links) (h3 : I64 n.size) : (rhead n).length ≤ 100 := by
  have k1 := itoa_le h1; have k2 := itoa_le h2; have k3 := itoa_le h3; have k4 := kindB_le n.kind
  simp only [rhead, List.length_append, List.length_cons, List.length_nil]; omega
theorem rlog_le {n : Nd} (h : (rfront n).length ≤ 200) (k : (rnums n.log).length ≤ 22 * 1048576) : (rlog n).length ≤ 23068972 := by
  unfold rlog
  split
  · omega
  · simp only [List.length_append, List.length_cons, List.length_nil]; omega
theorem rfront_le {n : Nd} (h1 : I64 n.ino) (h2 : I64 n.links) (h3 : I64 n.size) (h4 : I64 n.head) (h5 : I64 n.tail) (h6 : I64 n.entries) : (rfront n).length ≤ 200 := by
  have k1 := itoa_le h4; have k2 := itoa_le h5; have k3 := itoa_le h6; have k4 := rhead_le h1 h2 h3
  simp only [rfront, List.length_append, List.length_cons, List.length_nil]; omega
theorem rmap_le {n : Nd} (h : (rlog n).length ≤ 23068972) (hm : n.map.length ≤ 1048576) (hi : ∀ r ∈ n.map, I64 r.off ∧ I64 r.page ∧ I64 r.count) : (rmap n).length ≤ 200000000 := by
  unfold rmap
  split
  · have := flat_le (l := n.map.map rnB) (m := 70) (fun x hx => by obtain ⟨y, hy, rfl⟩ := List.mem_map.1 hx; exact rnB_le (hi y hy))
    simp only [List.length_append, List.length_cons, List.length_nil, List.length_map] at *
    omega
  · omega

theorem dents_le {w : World} {n : Nd} {vm vn vl : Value} (hv : NdV w n vm vn vl) (hsm : NdSm n) : ((n.names.map dnB).flatten).length ≤ 5000000 * 1048576 := by
  have := flat_le (l := n.names.map dnB) (m := 5000000) (fun x hx => by
    obtain ⟨y, hy, rfl⟩ := List.mem_map.1 hx
    obtain ⟨a, b, o, c, e, _, h⟩ := hv.names
    obtain ⟨j, hj, rfl⟩ := List.getElem_of_mem hy
    exact dnB_le (h j _ (List.getElem?_eq_getElem hj)).2.2 (hsm.name _ (List.getElem_mem hj)))
  refine Nat.le_trans this (Nat.mul_le_mul_left _ ?_)
  rw [List.length_map]
  exact hsm.names
set_option maxHeartbeats 4000000 in
set_option maxRecDepth 100000 in
theorem call_rnode (n : Nd) (vm vn vl : Value) (w : World) (hv : NdV w n vm vn vl) (hsm : NdSm n) (hp : Pow w) :
    Calls Tryd.prog 31 #[.agg #[(.int .i64 n.ino), (.int .i64 n.kind), (.int .i64 n.links), (.int .i64 n.size), vm, vn, (.int .i64 n.head), (.int .i64 n.tail), vl, (.int .i64 n.entries)]] w fun e w' => e = .returned (.string (bs (rnode n))) ∧ Below w.heap.size w w' := by
  obtain ⟨ml, hml⟩ : ∃ m, n.log.length = m := ⟨_, rfl⟩
  obtain ⟨mm, hmm⟩ : ∃ m, n.map.length = m := ⟨_, rfl⟩
  obtain ⟨mn, hmn⟩ : ∃ m, n.names.length = m := ⟨_, rfl⟩
  obtain ⟨al, cl, rfl⟩ : ∃ a c, vl = .slice a ml c := by obtain ⟨a, b, o, c, e, _⟩ := hv.log; rw [hml] at e; exact ⟨a, c, e⟩
  obtain ⟨am, cm, rfl⟩ : ∃ a c, vm = .slice a mm c := by obtain ⟨a, b, o, c, e, _⟩ := hv.map; rw [hmm] at e; exact ⟨a, c, e⟩
  obtain ⟨an, cn, rfl⟩ : ∃ a c, vn = .slice a mn c := by obtain ⟨a, b, o, c, e, _⟩ := hv.names; rw [hmn] at e; exact ⟨a, c, e⟩
  have HL := Lib.hid hml
  have HM := Lib.hid hmm
  have HN := Lib.hid hmn
  have bl1 : ml ≤ 1048576 := hml ▸ hsm.log
  have bl2 : mm ≤ 1048576 := hmm ▸ hsm.map
  have bl3 : mn ≤ 1048576 := hmn ▸ hsm.names
  clear hml hmm hmn
  have B0 := Lib.hid (Box.new w 69 [(.int .i64 n.ino), (.int .i64 n.kind), (.int .i64 n.links), (.int .i64 n.size), .slice am mm cm, .slice an mn cn, (.int .i64 n.head), (.int .i64 n.tail), .slice al ml cl, (.int .i64 n.entries)])
  have HP := Lib.hid hp
  have HV := Lib.hid hv
  have HSm := Lib.hid hsm
  have k9 := rfront_le hv.ino hv.links hv.size hv.head hv.tail hv.entries
  have k10 : (rnums n.log).length ≤ 22 * 1048576 := Nat.le_trans (rnums_le (fun x hx => by obtain ⟨a, b, o, c, e, _, h⟩ := hv.log; obtain ⟨j, hj, rfl⟩ := List.getElem_of_mem hx; exact (h j _ (List.getElem?_eq_getElem hj)).2)) (Nat.mul_le_mul_left _ hsm.log)
  have k12 : (∀ r ∈ n.map, I64 r.off ∧ I64 r.page ∧ I64 r.count) → (rmap n).length ≤ 200000000 := rmap_le (rlog_le k9 k10) hsm.map
  replace k12 := k12 (fun r hr => by obtain ⟨a, b, o, c, e, _, h⟩ := hv.map; obtain ⟨j, hj, rfl⟩ := List.getElem_of_mem hr; exact (h j _ (List.getElem?_eq_getElem hj)).2.2.2)
  have k13 : ((n.names.map dnB).flatten).length ≤ 5000000 * 1048576 := dents_le hv hsm
  have k11 : (rlog n).length ≤ 23068972 := rlog_le k9 k10
  have k1 := itoa_le hv.ino; have k2 := itoa_le hv.links; have k3 := itoa_le hv.size; have k4 := kindB_le n.kind
  have k5 := itoa_le hv.head; have k6 := itoa_le hv.tail; have k7 := itoa_le hv.entries; have k8 := rhead_le hv.ino hv.links hv.size
  clear hp hv hsm
  go_enter Tryd.func31, Tryd.ntmps31
  go_upto_region 1 with (fail)
  go_cut [3] (fun v3 wc => v3 = .string (bs (rhead n)) ∧ NdS w n (.slice am mm cm) (.slice an mn cn) (.slice al ml cl) wc)
  case first =>
    obtain ⟨sa9, ha9, la9, qa9⟩ := sumLB Tryd.prog ([32, 32, 105, 110, 111, 100, 101, 32]) (itoa n.ino) 29 (by (try simp only [List.length_cons, List.length_nil]); omega) (by omega)
    obtain ⟨sa10, ha10, la10, qa10⟩ := sumBL Tryd.prog (sa9) ([32]) 30 (by (try simp only [List.length_cons, List.length_nil]); omega) (by omega)
    obtain ⟨sa14, ha14, la14, qa14⟩ := sumBB Tryd.prog (sa10) (kindB n.kind) 34 (by (try simp only [List.length_cons, List.length_nil]); omega) (by omega)
    obtain ⟨sa15, ha15, la15, qa15⟩ := sumBL Tryd.prog (sa14) ([32]) 35 (by (try simp only [List.length_cons, List.length_nil]); omega) (by omega)
    obtain ⟨sa19, ha19, la19, qa19⟩ := sumBB Tryd.prog (sa15) (itoa n.links) 56 (by (try simp only [List.length_cons, List.length_nil]); omega) (by omega)
    obtain ⟨sa20, ha20, la20, qa20⟩ := sumBL Tryd.prog (sa19) ([32, 115, 105, 122, 101, 32]) 62 (by (try simp only [List.length_cons, List.length_nil]); omega) (by omega)
    obtain ⟨sa24, ha24, la24, qa24⟩ := sumBB Tryd.prog (sa20) (itoa n.size) 83 (by (try simp only [List.length_cons, List.length_nil]); omega) (by omega)
    obtain rfl : sa24 = rhead n := by rw [ha24.out, ha20.out, ha19.out, ha15.out, ha14.out, ha10.out, ha9.out]; rfl
    go_region_held3 (fun w' => NdS w n (.slice am mm cm) (.slice an mn cn) (.slice al ml cl) w')
      (first | exact node_cells (Box.drew B0.out) | exact NdS.step ‹NdS w n _ _ _ _› hb1)
      (first | (go_at_call 32; refine (call_itoa _ (by first | exact HV.out.ino.1 | exact HV.out.links.1 | exact HV.out.size.1) (by first | exact HV.out.ino.2 | exact HV.out.links.2 | exact HV.out.size.2) _ (HP.out.below (NdS.box ‹NdS w n _ _ _ _›).2)).mono ?_; rintro e w1 ⟨rfl, hb1⟩) | (go_at_call 56; refine (call_rkind _ _).mono ?_; rintro e w1 ⟨rfl, hb1⟩))
    go_wp2
    go_meet
    case rel => exact ⟨rfl, ‹NdS w n _ _ _ _›⟩
  case rest =>
    obtain ⟨rfl, hS⟩ := hcut
    clear B0
    go_step; go_step
    go_cut [3] (fun v3 wc => v3 = .string (bs (rfront n)) ∧ NdS w n (.slice am mm cm) (.slice an mn cn) (.slice al ml cl) wc)
    case first =>
      obtain ⟨sb29, hb29, lb29, qb29⟩ := sumLB Tryd.prog ([32, 104, 101, 97, 100, 32]) (itoa n.head) 27 (by (try simp only [List.length_cons, List.length_nil]); omega) (by omega)
      obtain ⟨sb30, hb30, lb30, qb30⟩ := sumBL Tryd.prog (sb29) ([32, 116, 97, 105, 108, 32]) 33 (by (try simp only [List.length_cons, List.length_nil]); omega) (by omega)
      obtain ⟨sb34, hb34, lb34, qb34⟩ := sumBB Tryd.prog (sb30) (itoa n.tail) 54 (by (try simp only [List.length_cons, List.length_nil]); omega) (by omega)
      obtain ⟨sb35, hb35, lb35, qb35⟩ := sumBL Tryd.prog (sb34) ([32, 101, 110, 116, 114, 105, 101, 115, 32]) 63 (by (try simp only [List.length_cons, List.length_nil]); omega) (by omega)
      obtain ⟨sb39, hb39, lb39, qb39⟩ := sumBB Tryd.prog (sb35) (itoa n.entries) 84 (by (try simp only [List.length_cons, List.length_nil]); omega) (by omega)
      obtain ⟨sb40, hb40, lb40, qb40⟩ := sumBB Tryd.prog (rhead n) (sb39) 184 (by (try simp only [List.length_cons, List.length_nil]); omega) (by omega)
      obtain rfl : sb40 = rfront n := by rw [hb40.out, hb39.out, hb35.out, hb34.out, hb30.out, hb29.out]; rfl
      go_region_held3 (fun w' => NdS w n (.slice am mm cm) (.slice an mn cn) (.slice al ml cl) w')
        (first | exact NdS.drew ‹NdS w n _ _ _ _› | exact NdS.step ‹NdS w n _ _ _ _› hb1)
        (first | (go_at_call 32; refine (call_itoa _ (by first | exact HV.out.head.1 | exact HV.out.tail.1 | exact HV.out.entries.1) (by first | exact HV.out.head.2 | exact HV.out.tail.2 | exact HV.out.entries.2) _ (HP.out.below (NdS.box ‹NdS w n _ _ _ _›).2)).mono ?_; rintro e w1 ⟨rfl, hb1⟩))
      go_wp2
      go_meet
      case rel => exact ⟨rfl, ‹NdS w n _ _ _ _›⟩
    case rest =>
      clear hS
      obtain ⟨rfl, hS⟩ := hcut
      go_step; go_step
      go_cut [3] (fun v3 wc => v3 = .string (bs (rlog n)) ∧ NdS w n (.slice am mm cm) (.slice an mn cn) (.slice al ml cl) wc)
      case first =>
        by_cases c : 0 < ml
        · have d := decide_eq_true c
          obtain ⟨sd49, hd49, ld49, qd49⟩ := sumLB Tryd.prog ([32, 108, 111, 103]) (rnums n.log) 23068676 (by (try simp only [List.length_cons, List.length_nil]); omega) (by omega)
          obtain ⟨sd50, hd50, ld50, qd50⟩ := sumBB Tryd.prog (rfront n) (sd49) 23068876 (by (try simp only [List.length_cons, List.length_nil]); omega) (by omega)
          obtain rfl : sd50 = rlog n := by rw [rlog, if_neg (by intro e; rw [e] at HL; have := HL.out; simp at this; omega)]; rw [hd50.out, hd49.out]
          go_wp2_with (go_at_call 30; refine (call_rnumbers _ n.log _ (HV.out.log.keep RInt.stays (keeps_below (NdS.box ‹NdS w n _ _ _ _›).2)) HSm.out.log (HP.out.below (NdS.box ‹NdS w n _ _ _ _›).2)).mono ?_; rintro e w1 ⟨rfl, hb1⟩)
          go_meet
          case rel => exact ⟨rfl, NdS.step ‹NdS w n _ _ _ _› hb1⟩
        · have d := decide_eq_false c
          go_wp2
          go_meet
          case rel => exact ⟨by rw [rlog, if_pos (by apply List.eq_nil_of_length_eq_zero; have := HL.out; omega)], ‹NdS w n _ _ _ _›⟩
      case rest =>
        clear hS
        obtain ⟨rfl, hS⟩ := hcut
        go_step; go_step
        go_cut [3] (fun v3 wc => v3 = .string (bs (rmap n)) ∧ NdS w n (.slice am mm cm) (.slice an mn cn) (.slice al ml cl) wc)
        case first =>
          by_cases hk : n.kind = 1
          · have b1 : (n.kind == 1) = true := by simp [hk]
            have K1 := Lib.hid hk
            clear hk
            by_cases c : 0 < mm
            · have d := decide_eq_true c
              have HC := Lib.hid c
              clear c
              obtain ⟨se61, he61, le61, qe61⟩ := sumBL Tryd.prog (rlog n) ([32, 109, 97, 112]) 23068976 (by (try simp only [List.length_cons, List.length_nil]); omega) (by omega)
              have E0 : Hid (se61 = rlog n ++ [32, 109, 97, 112] ++ ((n.map.take 0).map rnB).flatten) := by rw [he61.out]; simp [Hid]
              clear he61
              go_wp2
              go_loopw [3, 4] (fun v3 i wr => ∃ (k : Nat) (s : List UInt8), v3 = .string (bs s) ∧ i = .int .i64 k ∧ k ≤ mm ∧ Hid (s = rlog n ++ [32, 109, 97, 112] ++ ((n.map.take k).map rnB).flatten) ∧ NdS w n (.slice am mm cm) (.slice an mn cn) (.slice al ml cl) wr)
                (fun _ i _ => mm - (RowKit.intOf i).toNat)
              case atStart => exact ⟨0, _, rfl, rfl, Nat.zero_le _, E0, ‹NdS w n _ _ _ _›⟩
              case round =>
                obtain ⟨k, s, rfl, rfl, hkm, hs, hN⟩ := hrel
                by_cases hlt : k < mm
                · obtain ⟨r, hr⟩ : ∃ r, n.map[k]? = some r := ⟨_, List.getElem?_eq_getElem (by have := HM.out; omega)⟩
                  obtain ⟨aa, bb, oo, cc, ee, ha, hc⟩ := HV.out.map.keep RRn.stays (keeps_below hN.box.2)
                  rw [HM.out] at ee ha
                  cases ee
                  have ha' := ha (by omega)
                  subst ha'
                  obtain ⟨m0, m1, m2, i0, i1, i2⟩ := hc k r hr
                  have j0 := itoa_le i0; have j1 := itoa_le i1; have j2 := itoa_le i2
                  have ls : s.length ≤ 100000000 := by
                    rw [hs.out]
                    have := flat_le (l := (n.map.take k).map rnB) (m := 70) (fun x hx => by
                      obtain ⟨y, hy, rfl⟩ := List.mem_map.1 hx
                      obtain ⟨j, hj, rfl⟩ := List.getElem_of_mem (List.mem_of_mem_take hy)
                      exact rnB_le (hc j _ (List.getElem?_eq_getElem hj)).2.2.2)
                    have h5 := HSm.out.map
                    have h6 : ((n.map.take k).map rnB).length ≤ n.map.length := by simp; omega
                    simp only [List.length_append, List.length_cons, List.length_nil]
                    omega
                  obtain ⟨sf78, hf78, lf78, qf78⟩ := sumLB Tryd.prog ([32]) (itoa r.off) 22 (by (try simp only [List.length_cons, List.length_nil]); omega) (by omega)
                  obtain ⟨sf79, hf79, lf79, qf79⟩ := sumBL Tryd.prog (sf78) ([58]) 23 (by (try simp only [List.length_cons, List.length_nil]); omega) (by omega)
                  obtain ⟨sf83, hf83, lf83, qf83⟩ := sumBB Tryd.prog (sf79) (itoa r.page) 44 (by (try simp only [List.length_cons, List.length_nil]); omega) (by omega)
                  obtain ⟨sf84, hf84, lf84, qf84⟩ := sumBL Tryd.prog (sf83) ([43]) 45 (by (try simp only [List.length_cons, List.length_nil]); omega) (by omega)
                  obtain ⟨sf88, hf88, lf88, qf88⟩ := sumBB Tryd.prog (sf84) (itoa r.count) 66 (by (try simp only [List.length_cons, List.length_nil]); omega) (by omega)
                  obtain ⟨sf89, hf89, lf89, qf89⟩ := sumBB Tryd.prog (s) (sf88) 100000066 (by (try simp only [List.length_cons, List.length_nil]); omega) (by omega)
                  obtain rfl : sf89 = s ++ rnB r := by unfold rnB; rw [hf89.out, hf88.out, hf84.out, hf83.out, hf79.out, hf78.out]
                  have hr' := Lib.hid hr
                  have I0 := Lib.hid i0; have I1 := Lib.hid i1; have I2 := Lib.hid i2
                  clear hr ha hc i0 i1 i2
                  have R0 := Lib.hid (Rn3.new (w := w) (n := n) (r := r) hN)
                  go_wp2_with fail
                  go_region_held3 (fun w' => Rn3 w n (.slice (some ⟨bb, oo, none⟩) mm cm) (.slice an mn cn) (.slice al ml cl) wr.heap.size r w')
                    (first | exact Rn3.drew R0.out | exact Rn3.step ‹Rn3 w n _ _ _ _ _ _› hb1)
                    (first | (go_at_call 32; refine (call_itoa _ (by first | exact I0.out.1 | exact I1.out.1 | exact I2.out.1) (by first | exact I0.out.2 | exact I1.out.2 | exact I2.out.2) _ (HP.out.below (Rn3.nd ‹Rn3 w n _ _ _ _ _ _›).box.2)).mono ?_; rintro e w1 ⟨rfl, hb1⟩))
                  have hN' := Lib.hid (Rn3.nd ‹Rn3 w n _ _ _ _ _ _›)
                  go_wp2
                  go_roundw
                  case rel => exact ⟨k + 1, _, rfl, by go_num, by omega, by show _ = _; rw [hs.out, take_map_succ hr'.out]; simp, hN'.out⟩
                  case measure => simp [RowKit.intOf]; omega
                · obtain rfl : k = mm := by omega
                  have hN' := Lib.hid hN
                  go_wp2
                  go_meet
                  case rel => exact ⟨by rw [hs.out, rmap, if_pos ⟨K1.out, fun e => by have := HM.out; rw [e] at this; simp at this; have := HC.out; omega⟩, List.take_of_length_le (by have := HM.out; omega)], hN'.out⟩
            · have d := decide_eq_false c
              have HC := Lib.hid c
              clear c
              go_wp2
              go_meet
              case rel => exact ⟨by rw [rmap, if_neg (by rintro ⟨_, e⟩; exact e (List.eq_nil_of_length_eq_zero (by have := HM.out; have := HC.out; omega)))], ‹NdS w n _ _ _ _›⟩
          · have b1 : (n.kind == 1) = false := by simp [hk]
            have K1 := Lib.hid hk
            clear hk
            go_wp2
            go_meet
            case rel => exact ⟨by rw [rmap, if_neg (fun e => K1.out e.1)], ‹NdS w n _ _ _ _›⟩
        case rest =>
          clear hS
          obtain ⟨rfl, hS⟩ := hcut
          go_step; go_step
          go_cut [3] (fun v3 wc => v3 = .string (bs (rnode n)) ∧ NdS w n (.slice am mm cm) (.slice an mn cn) (.slice al ml cl) wc)
          case first =>
            by_cases hk : n.kind = 2
            · have b1 : (n.kind == 2) = true := by simp [hk]
              have K1 := Lib.hid hk
              clear hk
              by_cases c : 0 < mn
              · have d := decide_eq_true c
                have HC := Lib.hid c
                clear c
                obtain ⟨si103, hi103, li103, qi103⟩ := sumLB Tryd.prog ([32, 110, 97, 109, 101, 115]) ((n.names.map dnB).flatten) 5242880000006 (by (try simp only [List.length_cons, List.length_nil]); omega) (by omega)
                obtain ⟨si104, hi104, li104, qi104⟩ := sumBB Tryd.prog (rmap n) (si103) 5243080000006 (by (try simp only [List.length_cons, List.length_nil]); omega) (by omega)
                obtain rfl : si104 = rnode n := by rw [rnode, if_pos ⟨K1.out, fun e => by have := HN.out; rw [e] at this; simp at this; have := HC.out; omega⟩]; rw [hi104.out, hi103.out]
                go_wp2_with (go_at_call 57; refine (call_rdents _ n.names _ (HV.out.names.keep RDn.stays (keeps_below (NdS.box ‹NdS w n _ _ _ _›).2)) HSm.out.names HSm.out.name (HP.out.below (NdS.box ‹NdS w n _ _ _ _›).2)).mono ?_; rintro e w1 ⟨rfl, hb1⟩)
                go_meet
                case rel => exact ⟨rfl, NdS.step ‹NdS w n _ _ _ _› hb1⟩
              · have d := decide_eq_false c
                have HC := Lib.hid c
                clear c
                go_wp2
                go_meet
                case rel => exact ⟨by rw [rnode, if_neg (by rintro ⟨_, e⟩; exact e (List.eq_nil_of_length_eq_zero (by have := HN.out; have := HC.out; omega)))], ‹NdS w n _ _ _ _›⟩
            · have b1 : (n.kind == 2) = false := by simp [hk]
              have K1 := Lib.hid hk
              clear hk
              go_wp2
              go_meet
              case rel => exact ⟨by rw [rnode, if_neg (fun e => K1.out e.1)], ‹NdS w n _ _ _ _›⟩
          case rest =>
            clear hS
            obtain ⟨rfl, hS⟩ := hcut
            go_wp2
            go_ret
            exact ⟨rfl, (NdS.box hS).2⟩
end Go.Proofs.YtlecpjfggoehdaaDoor.Rs
