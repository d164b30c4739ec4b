/- RunStates: node, the first part. -/
import Derived.Test.YtlecpjfggoehdaaDoorRsB
import Derived.Test.YtlecpjfggoehdaaDoorRsQ
set_option linter.unusedVariables false
set_option linter.unusedSimpArgs false
namespace Go.Proofs.YtlecpjfggoehdaaDoor.Rs
open Go.RowKit Go.Sort Go.Lib

def RRn (w : World) (b o : Nat) (r : Rn) : Prop := w.cell? ⟨b, o, none⟩ = some (.int .i64 r.off) ∧ w.cell? ⟨b, o + 1, none⟩ = some (.int .i64 r.page) ∧ w.cell? ⟨b, o + 2, none⟩ = some (.int .i64 r.count) ∧ I64 r.off ∧ I64 r.page ∧ I64 r.count
theorem RRn.stays : Stays RRn := fun _ _ hk _ _ _ h => ⟨hk _ _ _ h.1, hk _ _ _ h.2.1, hk _ _ _ h.2.2.1, h.2.2.2⟩
def RDn (w : World) (b o : Nat) (r : Dn) : Prop := w.cell? ⟨b, o, none⟩ = some (.string (bs r.name)) ∧ w.cell? ⟨b, o + 1, none⟩ = some (.int .i64 r.ino) ∧ I64 r.ino
theorem RDn.stays : Stays RDn := fun _ _ hk _ _ _ h => ⟨hk _ _ _ h.1, hk _ _ _ h.2.1, h.2.2⟩
/-- A node's value: its whole numbers, and three slices that read as its lists. -/
structure NdV (w : World) (n : Nd) (vm vn vl : Value) : Prop where
  map : Sl RRn 3 w vm n.map
  names : Sl RDn 2 w vn n.names
  log : Sl RInt 1 w vl n.log
  ino : I64 n.ino
  links : I64 n.links
  size : I64 n.size
  head : I64 n.head
  tail : I64 n.tail
  entries : I64 n.entries
theorem NdV.keep {w w' : World} {n : Nd} {vm vn vl : Value} (h : NdV w n vm vn vl) (hk : Keeps w w') : NdV w' n vm vn vl :=
  ⟨h.map.keep RRn.stays hk, h.names.keep RDn.stays hk, h.log.keep RInt.stays hk, h.ino, h.links, h.size, h.head, h.tail, h.entries⟩

structure NdSm (n : Nd) : Prop where
  log : n.log.length ≤ 1048576
  map : n.map.length ≤ 1048576
  names : n.names.length ≤ 1048576
  name : ∀ d ∈ n.names, d.name.length ≤ 1048576

abbrev NdS (w : World) (n : Nd) (vm vn vl : Value) (w' : World) : Prop := w'.cell? ⟨w.heap.size, 0, none⟩ = some (.int .i64 n.ino) ∧ w'.cell? ⟨w.heap.size, 1, none⟩ = some (.int .i64 n.kind) ∧ w'.cell? ⟨w.heap.size, 2, none⟩ = some (.int .i64 n.links) ∧ w'.cell? ⟨w.heap.size, 3, none⟩ = some (.int .i64 n.size) ∧ w'.cell? ⟨w.heap.size, 4, none⟩ = some vm ∧ w'.cell? ⟨w.heap.size, 5, none⟩ = some vn ∧ w'.cell? ⟨w.heap.size, 6, none⟩ = some (.int .i64 n.head) ∧ w'.cell? ⟨w.heap.size, 7, none⟩ = some (.int .i64 n.tail) ∧ w'.cell? ⟨w.heap.size, 8, none⟩ = some vl ∧ w'.cell? ⟨w.heap.size, 9, none⟩ = some (.int .i64 n.entries) ∧ Hid (Box w w.heap.size 69 [(.int .i64 n.ino), (.int .i64 n.kind), (.int .i64 n.links), (.int .i64 n.size), vm, vn, (.int .i64 n.head), (.int .i64 n.tail), vl, (.int .i64 n.entries)] w')
theorem node_cells {w w' : World} {n : Nd} {vm vn vl : Value} (h : Box w w.heap.size 69 [(.int .i64 n.ino), (.int .i64 n.kind), (.int .i64 n.links), (.int .i64 n.size), vm, vn, (.int .i64 n.head), (.int .i64 n.tail), vl, (.int .i64 n.entries)] w') : NdS w n vm vn vl w' :=
  ⟨h.1.cell 0, h.1.cell 1, h.1.cell 2, h.1.cell 3, h.1.cell 4, h.1.cell 5, h.1.cell 6, h.1.cell 7, h.1.cell 8, h.1.cell 9, Lib.hid h⟩
theorem NdS.box {w w' : World} {n : Nd} {vm vn vl : Value} (h : NdS w n vm vn vl w') : Box w w.heap.size 69 [(.int .i64 n.ino), (.int .i64 n.kind), (.int .i64 n.links), (.int .i64 n.size), vm, vn, (.int .i64 n.head), (.int .i64 n.tail), vl, (.int .i64 n.entries)] w' := h.2.2.2.2.2.2.2.2.2.2.out
theorem NdS.drew {w w' : World} {n : Nd} {vm vn vl : Value} (h : NdS w n vm vn vl w') : NdS w n vm vn vl w'.drew := node_cells h.box.drew
theorem NdS.step {w w' w1 : World} {n : Nd} {vm vn vl : Value} (h : NdS w n vm vn vl w') (hb : Below w'.heap.size w' w1) : NdS w n vm vn vl w1 := node_cells (h.box.step hb)

abbrev Rn3 (w : World) (n : Nd) (vm vn vl : Value) (B : Nat) (r : Rn) (w' : World) : Prop :=
  w'.cell? ⟨B, 0, none⟩ = some (.int .i64 r.off) ∧ w'.cell? ⟨B, 1, none⟩ = some (.int .i64 r.page) ∧ w'.cell? ⟨B, 2, none⟩ = some (.int .i64 r.count) ∧ Hid (Row w' B 106 [.int .i64 r.off, .int .i64 r.page, .int .i64 r.count]) ∧ Hid (NdS w n vm vn vl w')
theorem Rn3.mk' {w w' : World} {n : Nd} {vm vn vl : Value} {B : Nat} {r : Rn} (h : Row w' B 106 [.int .i64 r.off, .int .i64 r.page, .int .i64 r.count]) (k : NdS w n vm vn vl w') : Rn3 w n vm vn vl B r w' := ⟨h.cell 0, h.cell 1, h.cell 2, Lib.hid h, Lib.hid k⟩
theorem Rn3.row {w w' : World} {n : Nd} {vm vn vl : Value} {B : Nat} {r : Rn} (h : Rn3 w n vm vn vl B r w') : Row w' B 106 [.int .i64 r.off, .int .i64 r.page, .int .i64 r.count] := h.2.2.2.1.out
theorem Rn3.nd {w w' : World} {n : Nd} {vm vn vl : Value} {B : Nat} {r : Rn} (h : Rn3 w n vm vn vl B r w') : NdS w n vm vn vl w' := h.2.2.2.2.out
theorem Rn3.new {w w' : World} {n : Nd} {vm vn vl : Value} {r : Rn} (h : NdS w n vm vn vl w') : Rn3 w n vm vn vl w'.heap.size r (w'.alloc (.cells #[.int .i64 r.off, .int .i64 r.page, .int .i64 r.count] 106)) :=
  Rn3.mk' (Row.new w' 106 _) (node_cells (h.box.alloc _))
theorem Rn3.drew {w w' : World} {n : Nd} {vm vn vl : Value} {B : Nat} {r : Rn} (h : Rn3 w n vm vn vl B r w') : Rn3 w n vm vn vl B r w'.drew := Rn3.mk' h.row.drew h.nd.drew
theorem Rn3.step {w w' w1 : World} {n : Nd} {vm vn vl : Value} {B : Nat} {r : Rn} (h : Rn3 w n vm vn vl B r w') (hb : Below w'.heap.size w' w1) : Rn3 w n vm vn vl B r w1 :=
  Rn3.mk' (h.row.below hb h.row.lt) (h.nd.step hb)
abbrev Dn2 (w : World) (n : Nd) (vm vn vl : Value) (B : Nat) (r : Dn) (w' : World) : Prop :=
  w'.cell? ⟨B, 0, none⟩ = some (.string (bs r.name)) ∧ w'.cell? ⟨B, 1, none⟩ = some (.int .i64 r.ino) ∧ Hid (Row w' B 109 [.string (bs r.name), .int .i64 r.ino]) ∧ Hid (NdS w n vm vn vl w')
theorem Dn2.mk' {w w' : World} {n : Nd} {vm vn vl : Value} {B : Nat} {r : Dn} (h : Row w' B 109 [.string (bs r.name), .int .i64 r.ino]) (k : NdS w n vm vn vl w') : Dn2 w n vm vn vl B r w' := ⟨h.cell 0, h.cell 1, Lib.hid h, Lib.hid k⟩
theorem Dn2.row {w w' : World} {n : Nd} {vm vn vl : Value} {B : Nat} {r : Dn} (h : Dn2 w n vm vn vl B r w') : Row w' B 109 [.string (bs r.name), .int .i64 r.ino] := h.2.2.1.out
theorem Dn2.nd {w w' : World} {n : Nd} {vm vn vl : Value} {B : Nat} {r : Dn} (h : Dn2 w n vm vn vl B r w') : NdS w n vm vn vl w' := h.2.2.2.out
theorem Dn2.new {w w' : World} {n : Nd} {vm vn vl : Value} {r : Dn} (h : NdS w n vm vn vl w') : Dn2 w n vm vn vl w'.heap.size r (w'.alloc (.cells #[.string (bs r.name), .int .i64 r.ino] 109)) :=
  Dn2.mk' (Row.new w' 109 _) (node_cells (h.box.alloc _))
theorem Dn2.drew {w w' : World} {n : Nd} {vm vn vl : Value} {B : Nat} {r : Dn} (h : Dn2 w n vm vn vl B r w') : Dn2 w n vm vn vl B r w'.drew := Dn2.mk' h.row.drew h.nd.drew
theorem Dn2.step {w w' w1 : World} {n : Nd} {vm vn vl : Value} {B : Nat} {r : Dn} (h : Dn2 w n vm vn vl B r w') (hb : Below w'.heap.size w' w1) : Dn2 w n vm vn vl B r w1 :=
  Dn2.mk' (h.row.below hb h.row.lt) (h.nd.step hb)
theorem take_map_succ {α : Type} {f : α → List UInt8} {l : List α} {k : Nat} {x : α} (h : l[k]? = some x) : ((l.take (k + 1)).map f).flatten = ((l.take k).map f).flatten ++ f x := by
  rw [List.take_add_one, h]; simp

def headRun (n : Nd) : List UInt8 := ((((((([32, 32, 105, 110, 111, 100, 101, 32]) ++ (itoa n.ino)) ++ ([32])) ++ (kindB n.kind)) ++ ([32])) ++ (itoa n.links)) ++ ([32, 115, 105, 122, 101, 32])) ++ (itoa n.size)
def frontRun (n : Nd) : List UInt8 := (headRun n) ++ (((((([32, 104, 101, 97, 100, 32]) ++ (itoa n.head)) ++ ([32, 116, 97, 105, 108, 32])) ++ (itoa n.tail)) ++ ([32, 101, 110, 116, 114, 105, 101, 115, 32])) ++ (itoa n.entries))
def logRun (n : Nd) : List UInt8 := if n.log = [] then frontRun n else frontRun n ++ ([32, 108, 111, 103, 32] ++ numStr n.log)
def rnB (r : Rn) : List UInt8 := (((((([32]) ++ (itoa r.off)) ++ ([58])) ++ (itoa r.page)) ++ ([43])) ++ (itoa r.count))
theorem rnB_le {r : Rn} (h : I64 r.off ∧ I64 r.page ∧ I64 r.count) : (rnB r).length ≤ 70 := by
  have k1 := itoa_le h.1; have k2 := itoa_le h.2.1; have k3 := itoa_le h.2.2
  simp only [rnB, List.length_append, List.length_cons, List.length_nil]; omega
theorem flat_le {l : List (List UInt8)} {m : Nat} (h : ∀ x ∈ l, x.length ≤ m) : l.flatten.length ≤ m * l.length := by
  induction l with
  | nil => simp
  | cons x l ih =>
    have h1 := h x (by simp)
    have h2 := ih fun y hy => h y (by simp [hy])
    simp only [List.flatten_cons, List.length_append, List.length_cons, Nat.mul_succ] at h2 ⊢
    omega
def dnB (r : Dn) : List UInt8 := (((([32]) ++ (quoteB r.name)) ++ ([32])) ++ (itoa r.ino))
theorem dnB_le {r : Dn} (h : I64 r.ino) (k : r.name.length ≤ 1048576) : (dnB r).length ≤ 5000000 := by
  have k1 := itoa_le h; have k2 := quoteB_le r.name
  simp only [dnB, List.length_append, List.length_cons, List.length_nil]; omega
def mapRun (n : Nd) : List UInt8 := if n.kind = 1 ∧ n.map ≠ [] then logRun n ++ [32, 109, 97, 112] ++ (n.map.map rnB).flatten else logRun n
def nodeRun (n : Nd) : List UInt8 := if n.kind = 2 ∧ n.names ≠ [] then mapRun n ++ [32, 110, 97, 109, 101, 115] ++ (n.names.map dnB).flatten else mapRun n
theorem mapRun_le {n : Nd} (h : (logRun n).length ≤ 23068972) (hm : n.map.length ≤ 1048576) (hi : ∀ r ∈ n.map, I64 r.off ∧ I64 r.page ∧ I64 r.count) : (mapRun n).length ≤ 200000000 := by
  unfold mapRun
  split
  · have := flat_le (l := n.map.map rnB) (m := 70) (fun x hx => by obtain ⟨y, hy, rfl⟩ := List.mem_map.1 hx; exact rnB_le (hi y hy))
    simp only [List.length_append, List.length_cons, List.length_nil, List.length_map] at *
    omega
  · omega
theorem headRun_le {n : Nd} (h1 : I64 n.ino) (h2 : I64 n.links) (h3 : I64 n.size) : (headRun n).length ≤ 100 := by
  have k1 := itoa_le h1; have k2 := itoa_le h2; have k3 := itoa_le h3; have k4 := kindB_le n.kind
  simp only [headRun, List.length_append, List.length_cons, List.length_nil]; omega
theorem logRun_le {n : Nd} (h : (frontRun n).length ≤ 200) (k : (numStr n.log).length ≤ 22 * 1048576) : (logRun n).length ≤ 23068972 := by
  unfold logRun
  split
  · omega
  · simp only [List.length_append, List.length_cons, List.length_nil]; omega
theorem frontRun_le {n : Nd} (h1 : I64 n.ino) (h2 : I64 n.links) (h3 : I64 n.size) (h4 : I64 n.head) (h5 : I64 n.tail) (h6 : I64 n.entries) : (frontRun n).length ≤ 200 := by
  have k1 := itoa_le h4; have k2 := itoa_le h5; have k3 := itoa_le h6; have k4 := headRun_le h1 h2 h3
  simp only [frontRun, List.length_append, List.length_cons, List.length_nil]; omega

set_option maxHeartbeats 4000000 in
set_option maxRecDepth 100000 in
theorem call_node (n : Nd) (vm vn vl : Value) (w : World) (hv : NdV w n vm vn vl) (hsm : NdSm n) (hp : Pow w) (ht : KindTab w) :
    Calls Tryd.prog 34 #[.agg #[(.int .i64 n.ino), (.int .i64 n.kind), (.int .i64 n.links), (.int .i64 n.size), vm, vn, (.int .i64 n.head), (.int .i64 n.tail), vl, (.int .i64 n.entries)]] w fun e w' => e = .returned (.string (bs (nodeRun n))) ∧ Below w.heap.size w w' := by
  obtain ⟨ml, hml⟩ : ∃ m, n.log.length = m := ⟨_, rfl⟩
  obtain ⟨mm, hmm⟩ : ∃ m, n.map.length = m := ⟨_, rfl⟩
  obtain ⟨mn, hmn⟩ : ∃ m, n.names.length = m := ⟨_, rfl⟩
  obtain ⟨al, cl, rfl⟩ : ∃ a c, vl = .slice a ml c := by obtain ⟨a, b, o, c, e, _⟩ := hv.log; rw [hml] at e; exact ⟨a, c, e⟩
  obtain ⟨am, cm, rfl⟩ : ∃ a c, vm = .slice a mm c := by obtain ⟨a, b, o, c, e, _⟩ := hv.map; rw [hmm] at e; exact ⟨a, c, e⟩
  obtain ⟨an, cn, rfl⟩ : ∃ a c, vn = .slice a mn c := by obtain ⟨a, b, o, c, e, _⟩ := hv.names; rw [hmn] at e; exact ⟨a, c, e⟩
  have HL := Lib.hid hml
  have HM := Lib.hid hmm
  have HN := Lib.hid hmn
  have bl1 : ml ≤ 1048576 := hml ▸ hsm.log
  have bl2 : mm ≤ 1048576 := hmm ▸ hsm.map
  have bl3 : mn ≤ 1048576 := hmn ▸ hsm.names
  clear hml hmm hmn
  have B0 := Lib.hid (Box.new w 69 [(.int .i64 n.ino), (.int .i64 n.kind), (.int .i64 n.links), (.int .i64 n.size), .slice am mm cm, .slice an mn cn, (.int .i64 n.head), (.int .i64 n.tail), .slice al ml cl, (.int .i64 n.entries)])
  have HP := Lib.hid hp
  have HT := Lib.hid ht
  have HV := Lib.hid hv
  have HSm := Lib.hid hsm
  have k9 := frontRun_le hv.ino hv.links hv.size hv.head hv.tail hv.entries
  have k10 : (numStr n.log).length ≤ 22 * 1048576 := Nat.le_trans (numStr_le (fun x hx => by obtain ⟨a, b, o, c, e, _, h⟩ := hv.log; obtain ⟨j, hj, rfl⟩ := List.getElem_of_mem hx; exact (h j _ (List.getElem?_eq_getElem hj)).2)) (Nat.mul_le_mul_left _ hsm.log)
  have k12 : (∀ r ∈ n.map, I64 r.off ∧ I64 r.page ∧ I64 r.count) → (mapRun n).length ≤ 200000000 := mapRun_le (logRun_le k9 k10) hsm.map
  replace k12 := k12 (fun r hr => by obtain ⟨a, b, o, c, e, _, h⟩ := hv.map; obtain ⟨j, hj, rfl⟩ := List.getElem_of_mem hr; exact (h j _ (List.getElem?_eq_getElem hj)).2.2.2)
  have k11 : (logRun n).length ≤ 23068972 := logRun_le k9 k10
  have k1 := itoa_le hv.ino; have k2 := itoa_le hv.links; have k3 := itoa_le hv.size; have k4 := kindB_le n.kind
  have k5 := itoa_le hv.head; have k6 := itoa_le hv.tail; have k7 := itoa_le hv.entries; have k8 := headRun_le hv.ino hv.links hv.size
  clear hp ht hv hsm
  go_enter Tryd.func34, Tryd.ntmps34
  go_upto_region 1 with (fail)
  go_cut [3] (fun v3 wc => v3 = .string (bs (headRun n)) ∧ NdS w n (.slice am mm cm) (.slice an mn cn) (.slice al ml cl) wc)
  case first =>
    obtain ⟨sa11, ha11, la11, qa11⟩ := sumLB Tryd.prog ([32, 32, 105, 110, 111, 100, 101, 32]) (itoa n.ino) 29 (by (try simp only [List.length_cons, List.length_nil]); omega) (by omega)
    obtain ⟨sa12, ha12, la12, qa12⟩ := sumBL Tryd.prog (sa11) ([32]) 30 (by (try simp only [List.length_cons, List.length_nil]); omega) (by omega)
    obtain ⟨sa16, ha16, la16, qa16⟩ := sumBB Tryd.prog (sa12) (kindB n.kind) 34 (by (try simp only [List.length_cons, List.length_nil]); omega) (by omega)
    obtain ⟨sa17, ha17, la17, qa17⟩ := sumBL Tryd.prog (sa16) ([32]) 35 (by (try simp only [List.length_cons, List.length_nil]); omega) (by omega)
    obtain ⟨sa21, ha21, la21, qa21⟩ := sumBB Tryd.prog (sa17) (itoa n.links) 56 (by (try simp only [List.length_cons, List.length_nil]); omega) (by omega)
    obtain ⟨sa22, ha22, la22, qa22⟩ := sumBL Tryd.prog (sa21) ([32, 115, 105, 122, 101, 32]) 62 (by (try simp only [List.length_cons, List.length_nil]); omega) (by omega)
    obtain ⟨sa26, ha26, la26, qa26⟩ := sumBB Tryd.prog (sa22) (itoa n.size) 83 (by (try simp only [List.length_cons, List.length_nil]); omega) (by omega)
    obtain rfl : sa26 = headRun n := by rw [ha26.out, ha22.out, ha21.out, ha17.out, ha16.out, ha12.out, ha11.out]; rfl
    go_region_held3 (fun w' => NdS w n (.slice am mm cm) (.slice an mn cn) (.slice al ml cl) w')
      (first | exact node_cells (Box.drew B0.out) | exact NdS.step ‹NdS w n _ _ _ _› hb1)
      (first | (go_at_call 32; refine (call_itoa _ (by first | exact HV.out.ino.1 | exact HV.out.links.1 | exact HV.out.size.1) (by first | exact HV.out.ino.2 | exact HV.out.links.2 | exact HV.out.size.2) _ (HP.out.below (NdS.box ‹NdS w n _ _ _ _›).2)).mono ?_; rintro e w1 ⟨rfl, hb1⟩) | (go_at_call 59; refine (call_kindWord _ _ (HT.out.below (NdS.box ‹NdS w n _ _ _ _›).2)).mono ?_; rintro e w1 ⟨rfl, hb1⟩))
    go_wp2
    go_meet
    case rel => exact ⟨rfl, ‹NdS w n _ _ _ _›⟩
  case rest =>
    obtain ⟨rfl, hS⟩ := hcut
    clear B0
    go_step; go_step
    go_cut [3] (fun v3 wc => v3 = .string (bs (frontRun n)) ∧ NdS w n (.slice am mm cm) (.slice an mn cn) (.slice al ml cl) wc)
    case first =>
      obtain ⟨sb31, hb31, lb31, qb31⟩ := sumLB Tryd.prog ([32, 104, 101, 97, 100, 32]) (itoa n.head) 27 (by (try simp only [List.length_cons, List.length_nil]); omega) (by omega)
      obtain ⟨sb32, hb32, lb32, qb32⟩ := sumBL Tryd.prog (sb31) ([32, 116, 97, 105, 108, 32]) 33 (by (try simp only [List.length_cons, List.length_nil]); omega) (by omega)
      obtain ⟨sb36, hb36, lb36, qb36⟩ := sumBB Tryd.prog (sb32) (itoa n.tail) 54 (by (try simp only [List.length_cons, List.length_nil]); omega) (by omega)
      obtain ⟨sb37, hb37, lb37, qb37⟩ := sumBL Tryd.prog (sb36) ([32, 101, 110, 116, 114, 105, 101, 115, 32]) 63 (by (try simp only [List.length_cons, List.length_nil]); omega) (by omega)
      obtain ⟨sb41, hb41, lb41, qb41⟩ := sumBB Tryd.prog (sb37) (itoa n.entries) 84 (by (try simp only [List.length_cons, List.length_nil]); omega) (by omega)
      obtain ⟨sb42, hb42, lb42, qb42⟩ := sumBB Tryd.prog (headRun n) (sb41) 184 (by (try simp only [List.length_cons, List.length_nil]); omega) (by omega)
      obtain rfl : sb42 = frontRun n := by rw [hb42.out, hb41.out, hb37.out, hb36.out, hb32.out, hb31.out]; rfl
      go_region_held3 (fun w' => NdS w n (.slice am mm cm) (.slice an mn cn) (.slice al ml cl) w')
        (first | exact NdS.drew ‹NdS w n _ _ _ _› | exact NdS.step ‹NdS w n _ _ _ _› hb1)
        (first | (go_at_call 32; refine (call_itoa _ (by first | exact HV.out.head.1 | exact HV.out.tail.1 | exact HV.out.entries.1) (by first | exact HV.out.head.2 | exact HV.out.tail.2 | exact HV.out.entries.2) _ (HP.out.below (NdS.box ‹NdS w n _ _ _ _›).2)).mono ?_; rintro e w1 ⟨rfl, hb1⟩))
      go_wp2
      go_meet
      case rel => exact ⟨rfl, ‹NdS w n _ _ _ _›⟩
    case rest =>
      clear hS
      obtain ⟨rfl, hS⟩ := hcut
      go_step; go_step
      go_cut [3] (fun v3 wc => v3 = .string (bs (logRun n)) ∧ NdS w n (.slice am mm cm) (.slice an mn cn) (.slice al ml cl) wc)
      case first =>
        by_cases c : 0 < ml
        · have d := decide_eq_true c
          obtain ⟨sd51, hd51, ld51, qd51⟩ := sumLB Tryd.prog ([32, 108, 111, 103, 32]) (numStr n.log) 23068677 (by (try simp only [List.length_cons, List.length_nil]); omega) (by omega)
          obtain ⟨sd52, hd52, ld52, qd52⟩ := sumBB Tryd.prog (frontRun n) (sd51) 23068877 (by (try simp only [List.length_cons, List.length_nil]); omega) (by omega)
          obtain rfl : sd52 = logRun n := by rw [logRun, if_neg (by intro e; rw [e] at HL; have := HL.out; simp at this; omega)]; rw [hd52.out, hd51.out]
          go_wp2_with (go_at_call 33; refine (call_numbers _ n.log _ (HV.out.log.keep RInt.stays (keeps_below (NdS.box ‹NdS w n _ _ _ _›).2)) HSm.out.log (HP.out.below (NdS.box ‹NdS w n _ _ _ _›).2)).mono ?_; rintro e w1 ⟨rfl, hb1⟩)
          go_meet
          case rel => exact ⟨rfl, NdS.step ‹NdS w n _ _ _ _› hb1⟩
        · have d := decide_eq_false c
          go_wp2
          go_meet
          case rel => exact ⟨by rw [logRun, if_pos (by apply List.eq_nil_of_length_eq_zero; have := HL.out; omega)], ‹NdS w n _ _ _ _›⟩
      case rest =>
        clear hS
        obtain ⟨rfl, hS⟩ := hcut
        go_step; go_step
        go_cut [3] (fun v3 wc => v3 = .string (bs (mapRun n)) ∧ NdS w n (.slice am mm cm) (.slice an mn cn) (.slice al ml cl) wc)
        case first =>
          by_cases hk : n.kind = 1
          · have b1 : (n.kind == 1) = true := by simp [hk]
            have K1 := Lib.hid hk
            clear hk
            by_cases c : 0 < mm
            · have d := decide_eq_true c
              have HC := Lib.hid c
              clear c
              obtain ⟨se63, he63, le63, qe63⟩ := sumBL Tryd.prog (logRun n) ([32, 109, 97, 112]) 23068976 (by (try simp only [List.length_cons, List.length_nil]); omega) (by omega)
              have E0 : Hid (se63 = logRun n ++ [32, 109, 97, 112] ++ ((n.map.take 0).map rnB).flatten) := by rw [he63.out]; simp [Hid]
              clear he63
              go_wp2
              go_loopw [3, 67] (fun v3 i wr => ∃ (k : Nat) (s : List UInt8), v3 = .string (bs s) ∧ i = .int .i64 k ∧ k ≤ mm ∧ Hid (s = logRun n ++ [32, 109, 97, 112] ++ ((n.map.take k).map rnB).flatten) ∧ NdS w n (.slice am mm cm) (.slice an mn cn) (.slice al ml cl) wr)
                (fun _ i _ => mm - (RowKit.intOf i).toNat)
              case atStart => exact ⟨0, _, rfl, rfl, Nat.zero_le _, E0, ‹NdS w n _ _ _ _›⟩
              case round =>
                obtain ⟨k, s, rfl, rfl, hkm, hs, hN⟩ := hrel
                by_cases hlt : k < mm
                · obtain ⟨r, hr⟩ : ∃ r, n.map[k]? = some r := ⟨_, List.getElem?_eq_getElem (by have := HM.out; omega)⟩
                  obtain ⟨aa, bb, oo, cc, ee, ha, hc⟩ := HV.out.map.keep RRn.stays (keeps_below hN.box.2)
                  rw [HM.out] at ee ha
                  cases ee
                  have ha' := ha (by omega)
                  subst ha'
                  obtain ⟨m0, m1, m2, i0, i1, i2⟩ := hc k r hr
                  have j0 := itoa_le i0; have j1 := itoa_le i1; have j2 := itoa_le i2
                  have ls : s.length ≤ 100000000 := by
                    rw [hs.out]
                    have := flat_le (l := (n.map.take k).map rnB) (m := 70) (fun x hx => by
                      obtain ⟨y, hy, rfl⟩ := List.mem_map.1 hx
                      obtain ⟨j, hj, rfl⟩ := List.getElem_of_mem (List.mem_of_mem_take hy)
                      exact rnB_le (hc j _ (List.getElem?_eq_getElem hj)).2.2.2)
                    have h5 := HSm.out.map
                    have h6 : ((n.map.take k).map rnB).length ≤ n.map.length := by simp; omega
                    simp only [List.length_append, List.length_cons, List.length_nil]
                    omega
                  obtain ⟨sf75, hf75, lf75, qf75⟩ := sumLB Tryd.prog ([32]) (itoa r.off) 22 (by (try simp only [List.length_cons, List.length_nil]); omega) (by omega)
                  obtain ⟨sf76, hf76, lf76, qf76⟩ := sumBL Tryd.prog (sf75) ([58]) 23 (by (try simp only [List.length_cons, List.length_nil]); omega) (by omega)
                  obtain ⟨sf80, hf80, lf80, qf80⟩ := sumBB Tryd.prog (sf76) (itoa r.page) 44 (by (try simp only [List.length_cons, List.length_nil]); omega) (by omega)
                  obtain ⟨sf81, hf81, lf81, qf81⟩ := sumBL Tryd.prog (sf80) ([43]) 45 (by (try simp only [List.length_cons, List.length_nil]); omega) (by omega)
                  obtain ⟨sf85, hf85, lf85, qf85⟩ := sumBB Tryd.prog (sf81) (itoa r.count) 66 (by (try simp only [List.length_cons, List.length_nil]); omega) (by omega)
                  obtain ⟨sf86, hf86, lf86, qf86⟩ := sumBB Tryd.prog (s) (sf85) 100000066 (by (try simp only [List.length_cons, List.length_nil]); omega) (by omega)
                  obtain rfl : sf86 = s ++ rnB r := by unfold rnB; rw [hf86.out, hf85.out, hf81.out, hf80.out, hf76.out, hf75.out]
                  have hr' := Lib.hid hr
                  have I0 := Lib.hid i0; have I1 := Lib.hid i1; have I2 := Lib.hid i2
                  clear hr ha hc i0 i1 i2
                  have R0 := Lib.hid (Rn3.new (w := w) (n := n) (r := r) hN)
                  go_wp2_with fail
                  go_region_held3 (fun w' => Rn3 w n (.slice (some ⟨bb, oo, none⟩) mm cm) (.slice an mn cn) (.slice al ml cl) wr.heap.size r w')
                    (first | exact Rn3.drew R0.out | exact Rn3.step ‹Rn3 w n _ _ _ _ _ _› hb1)
                    (first | (go_at_call 32; refine (call_itoa _ (by first | exact I0.out.1 | exact I1.out.1 | exact I2.out.1) (by first | exact I0.out.2 | exact I1.out.2 | exact I2.out.2) _ (HP.out.below (Rn3.nd ‹Rn3 w n _ _ _ _ _ _›).box.2)).mono ?_; rintro e w1 ⟨rfl, hb1⟩))
                  have hN' := Lib.hid (Rn3.nd ‹Rn3 w n _ _ _ _ _ _›)
                  go_wp2
                  go_roundw
                  case rel => exact ⟨k + 1, _, rfl, by go_num, by omega, by show _ = _; rw [hs.out, take_map_succ hr'.out]; simp, hN'.out⟩
                  case measure => simp [RowKit.intOf]; omega
                · obtain rfl : k = mm := by omega
                  have hN' := Lib.hid hN
                  clear hN
                  go_wp2
                  go_meet
                  case rel => exact ⟨by rw [hs.out, mapRun, if_pos ⟨K1.out, fun e => by have := HM.out; rw [e] at this; simp at this; have := HC.out; omega⟩, List.take_of_length_le (by have := HM.out; omega)], hN'.out⟩
            · have d := decide_eq_false c
              have HC := Lib.hid c
              clear c
              go_wp2
              go_meet
              case rel => exact ⟨by rw [mapRun, if_neg (by rintro ⟨_, e⟩; exact e (List.eq_nil_of_length_eq_zero (by have := HM.out; have := HC.out; omega)))], ‹NdS w n _ _ _ _›⟩
          · have b1 : (n.kind == 1) = false := by simp [hk]
            have K1 := Lib.hid hk
            clear hk
            go_wp2
            go_meet
            case rel => exact ⟨by rw [mapRun, if_neg (fun e => K1.out e.1)], ‹NdS w n _ _ _ _›⟩
        case rest =>
          clear hS
          obtain ⟨rfl, hS⟩ := hcut
          go_step; go_step
          go_cut [3] (fun v3 wc => v3 = .string (bs (nodeRun n)) ∧ NdS w n (.slice am mm cm) (.slice an mn cn) (.slice al ml cl) wc)
          case first =>
            by_cases hk : n.kind = 2
            · have b1 : (n.kind == 2) = true := by simp [hk]
              have K1 := Lib.hid hk
              clear hk
              by_cases c : 0 < mn
              · have d := decide_eq_true c
                have HC := Lib.hid c
                clear c
                obtain ⟨si98, hi98, li98, qi98⟩ := sumBL Tryd.prog (mapRun n) ([32, 110, 97, 109, 101, 115]) 200000006 (by (try simp only [List.length_cons, List.length_nil]); omega) (by omega)
                have E0 : Hid (si98 = mapRun n ++ [32, 110, 97, 109, 101, 115] ++ ((n.names.take 0).map dnB).flatten) := by rw [hi98.out]; simp [Hid]
                clear hi98
                go_wp2
                go_loopw [3, 102] (fun v3 i wr => ∃ (k : Nat) (s : List UInt8), v3 = .string (bs s) ∧ i = .int .i64 k ∧ k ≤ mn ∧ Hid (s = mapRun n ++ [32, 110, 97, 109, 101, 115] ++ ((n.names.take k).map dnB).flatten) ∧ NdS w n (.slice am mm cm) (.slice an mn cn) (.slice al ml cl) wr)
                  (fun _ i _ => mn - (RowKit.intOf i).toNat)
                case atStart => exact ⟨0, _, rfl, rfl, Nat.zero_le _, E0, ‹NdS w n _ _ _ _›⟩
                case round =>
                  obtain ⟨k, s, rfl, rfl, hkm, hs, hN⟩ := hrel
                  by_cases hlt : k < mn
                  · obtain ⟨r, hr⟩ : ∃ r, n.names[k]? = some r := ⟨_, List.getElem?_eq_getElem (by have := HN.out; omega)⟩
                    obtain ⟨aa, bb, oo, cc, ee, ha, hc⟩ := HV.out.names.keep RDn.stays (keeps_below hN.box.2)
                    rw [HN.out] at ee ha
                    cases ee
                    have ha' := ha (by omega)
                    subst ha'
                    obtain ⟨m0, m1, i0⟩ := hc k r hr
                    have j0 := itoa_le i0
                    have j1 := HSm.out.name r (List.mem_of_getElem? hr)
                    have j2 := quoteB_le r.name
                    have ls : s.length ≤ 100000000000000 := by
                      rw [hs.out]
                      have := flat_le (l := (n.names.take k).map dnB) (m := 5000000) (fun x hx => by
                        obtain ⟨y, hy, rfl⟩ := List.mem_map.1 hx
                        have hy' := List.mem_of_mem_take hy
                        obtain ⟨j, hj, rfl⟩ := List.getElem_of_mem hy'
                        exact dnB_le (hc j _ (List.getElem?_eq_getElem hj)).2.2 (HSm.out.name _ hy'))
                      have h5 := HSm.out.names
                      have h6 : ((n.names.take k).map dnB).length ≤ n.names.length := by simp; omega
                      have h7 : 5000000 * ((n.names.take k).map dnB).length ≤ 5000000 * 1048576 := Nat.mul_le_mul_left _ (by omega)
                      simp only [List.length_append, List.length_cons, List.length_nil]
                      omega
                    obtain ⟨sg110, hg110, lg110, qg110⟩ := sumLB Tryd.prog ([32]) (quoteB r.name) 4194307 (by (try simp only [List.length_cons, List.length_nil]); omega) (by omega)
                    obtain ⟨sg111, hg111, lg111, qg111⟩ := sumBL Tryd.prog (sg110) ([32]) 4194308 (by (try simp only [List.length_cons, List.length_nil]); omega) (by omega)
                    obtain ⟨sg115, hg115, lg115, qg115⟩ := sumBB Tryd.prog (sg111) (itoa r.ino) 4194329 (by (try simp only [List.length_cons, List.length_nil]); omega) (by omega)
                    obtain ⟨sg116, hg116, lg116, qg116⟩ := sumBB Tryd.prog (s) (sg115) 100000004194329 (by (try simp only [List.length_cons, List.length_nil]); omega) (by omega)
                    obtain rfl : sg116 = s ++ dnB r := by unfold dnB; rw [hg116.out, hg115.out, hg111.out, hg110.out]
                    have hr' := Lib.hid hr
                    have I0 := Lib.hid i0
                    have J1 := Lib.hid j1
                    clear hr ha hc i0 j1
                    have R0 := Lib.hid (Dn2.new (w := w) (n := n) (r := r) hN)
                    go_wp2_with fail
                    go_region_held3 (fun w' => Dn2 w n (.slice am mm cm) (.slice (some ⟨bb, oo, none⟩) mn cn) (.slice al ml cl) wr.heap.size r w')
                      (first | exact Dn2.drew R0.out | exact Dn2.step ‹Dn2 w n _ _ _ _ _ _› hb1)
                      (first | (go_at_call 32; refine (call_itoa _ I0.out.1 I0.out.2 _ (HP.out.below (Dn2.nd ‹Dn2 w n _ _ _ _ _ _›).box.2)).mono ?_; rintro e w1 ⟨rfl, hb1⟩) | (go_at_call 60; refine (call_quote _ _ J1.out).mono ?_; rintro e w1 ⟨rfl, hb1⟩))
                    have hN' := Lib.hid (Dn2.nd ‹Dn2 w n _ _ _ _ _ _›)
                    go_wp2
                    go_roundw
                    case rel => exact ⟨k + 1, _, rfl, by go_num, by omega, by show _ = _; rw [hs.out, take_map_succ hr'.out]; simp, hN'.out⟩
                    case measure => simp [RowKit.intOf]; omega
                  · obtain rfl : k = mn := by omega
                    have hN' := Lib.hid hN
                    clear hN
                    go_wp2
                    go_meet
                    case rel => exact ⟨by rw [hs.out, nodeRun, if_pos ⟨K1.out, fun e => by have := HN.out; rw [e] at this; simp at this; have := HC.out; omega⟩, List.take_of_length_le (by have := HN.out; omega)], hN'.out⟩
              · have d := decide_eq_false c
                have HC := Lib.hid c
                clear c
                go_wp2
                go_meet
                case rel => exact ⟨by rw [nodeRun, if_neg (by rintro ⟨_, e⟩; exact e (List.eq_nil_of_length_eq_zero (by have := HN.out; have := HC.out; omega)))], ‹NdS w n _ _ _ _›⟩
            · have b1 : (n.kind == 2) = false := by simp [hk]
              have K1 := Lib.hid hk
              clear hk
              go_wp2
              go_meet
              case rel => exact ⟨by rw [nodeRun, if_neg (fun e => K1.out e.1)], ‹NdS w n _ _ _ _›⟩
          case rest =>
            clear hS
            obtain ⟨rfl, hS⟩ := hcut
            go_wp2
            go_ret
            exact ⟨rfl, (NdS.box hS).2⟩
end Go.Proofs.YtlecpjfggoehdaaDoor.Rs
