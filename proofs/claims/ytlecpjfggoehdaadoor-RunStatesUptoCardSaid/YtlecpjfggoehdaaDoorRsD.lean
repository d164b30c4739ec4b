/- RunStates: run.State. -/
import Derived.Test.YtlecpjfggoehdaaDoorRsC
set_option linter.unusedVariables false
set_option linter.unusedSimpArgs false
namespace Go.Proofs.YtlecpjfggoehdaaDoor.Rs
open Go.RowKit Go.Sort Go.Lib

structure Sp where
  frm : Int
  count : Int
structure St where
  pages : Int
  inodes : Int
  cores : Int
  data : Int
  nodes : List Nd
  free : List Sp
def Nd.wt (n : Nd) : Nat := n.log.length + n.map.length + (n.names.map fun d => d.name.length + 1).sum
def RSp (w : World) (b o : Nat) (r : Sp) : Prop := w.cell? ⟨b, o, none⟩ = some (.int .i64 r.frm) ∧ w.cell? ⟨b, o + 1, none⟩ = some (.int .i64 r.count) ∧ I64 r.frm ∧ I64 r.count
theorem RSp.stays : Stays RSp := fun _ _ hk _ _ _ h => ⟨hk _ _ _ h.1, hk _ _ _ h.2.1, h.2.2⟩
def RNd (w : World) (b o : Nat) (n : Nd) : Prop := ∃ vm vn vl, w.cell? ⟨b, o, none⟩ = some (.int .i64 n.ino) ∧ w.cell? ⟨b, o + 1, none⟩ = some (.int .i64 n.kind) ∧ w.cell? ⟨b, o + 2, none⟩ = some (.int .i64 n.links) ∧ w.cell? ⟨b, o + 3, none⟩ = some (.int .i64 n.size) ∧
  w.cell? ⟨b, o + 4, none⟩ = some vm ∧ w.cell? ⟨b, o + 5, none⟩ = some vn ∧ w.cell? ⟨b, o + 6, none⟩ = some (.int .i64 n.head) ∧ w.cell? ⟨b, o + 7, none⟩ = some (.int .i64 n.tail) ∧ w.cell? ⟨b, o + 8, none⟩ = some vl ∧ w.cell? ⟨b, o + 9, none⟩ = some (.int .i64 n.entries) ∧ NdV w n vm vn vl
theorem RNd.stays : Stays RNd := fun _ _ hk _ _ _ ⟨vm, vn, vl, h0, h1, h2, h3, h4, h5, h6, h7, h8, h9, h⟩ =>
  ⟨vm, vn, vl, hk _ _ _ h0, hk _ _ _ h1, hk _ _ _ h2, hk _ _ _ h3, hk _ _ _ h4, hk _ _ _ h5, hk _ _ _ h6, hk _ _ _ h7, hk _ _ _ h8, hk _ _ _ h9, h.keep hk⟩
structure StV (w : World) (t : St) (vn vf : Value) : Prop where
  nodes : Sl RNd 10 w vn t.nodes
  free : Sl RSp 2 w vf t.free
  pages : I64 t.pages
  inodes : I64 t.inodes
  cores : I64 t.cores
  wt : (t.nodes.map Nd.wt).sum ≤ 1048576
  many : t.nodes.length ≤ 1048576
  spans : t.free.length ≤ 1048576
theorem StV.keep {w w' : World} {t : St} {vn vf : Value} (h : StV w t vn vf) (hk : Keeps w w') : StV w' t vn vf := ⟨h.nodes.keep RNd.stays hk, h.free.keep RSp.stays hk, h.pages, h.inodes, h.cores, h.wt, h.many, h.spans⟩

theorem sum_le_of_mem {l : List Nat} {x : Nat} (h : x ∈ l) : x ≤ l.sum := by
  induction l with
  | nil => cases h
  | cons y l ih =>
    simp only [List.sum_cons]
    rcases List.mem_cons.1 h with rfl | h
    · omega
    · have := ih h; omega
theorem len_le_sum (l : List Dn) : l.length ≤ (l.map fun d => d.name.length + 1).sum := by
  induction l with
  | nil => simp
  | cons d l ih => simp only [List.length_cons, List.map_cons, List.sum_cons]; omega
theorem StV.small {w : World} {t : St} {vn vf : Value} (h : StV w t vn vf) {n : Nd} (hn : n ∈ t.nodes) : NdSm n := by
  have h1 : n.wt ≤ 1048576 := Nat.le_trans (sum_le_of_mem (List.mem_map_of_mem (f := Nd.wt) hn)) h.wt
  have h3 := len_le_sum n.names
  unfold Nd.wt at h1
  refine ⟨by omega, by omega, by omega, fun d hd => ?_⟩
  have h4 := sum_le_of_mem (List.mem_map_of_mem (f := fun d : Dn => d.name.length + 1) hd)
  omega

def spB (r : Sp) : List UInt8 := (((([32]) ++ (itoa r.frm)) ++ ([43])) ++ (itoa r.count))
def shapeRun (t : St) : List UInt8 := ([32, 32, 115, 104, 97, 112, 101, 32]) ++ (numStr [t.pages, t.inodes, t.cores])
def freeRun (t : St) : List UInt8 := [32, 32, 102, 114, 101, 101] ++ (t.free.map spB).flatten
def linesRun (t : St) : List (List UInt8) := [shapeRun t] ++ t.nodes.map nodeRun ++ [freeRun t]
def stateRun (t : St) : List UInt8 := join (linesRun t) [10]

theorem spB_le {r : Sp} (h : I64 r.frm) (k : I64 r.count) : (spB r).length ≤ 50 := by
  have k1 := itoa_le h; have k2 := itoa_le k
  simp only [spB, List.length_append, List.length_cons, List.length_nil]; omega
theorem dnB_le' {r : Dn} (h : I64 r.ino) : (dnB r).length ≤ 100 * (r.name.length + 1) := by
  have k1 := itoa_le h; have k2 := quoteB_le r.name
  simp only [dnB, List.length_append, List.length_cons, List.length_nil]; omega
theorem flat_sum {α : Type} (f : α → List UInt8) (g : α → Nat) (c : Nat) (l : List α) (h : ∀ x ∈ l, (f x).length ≤ c * g x) : (l.map f).flatten.length ≤ c * (l.map g).sum := by
  induction l with
  | nil => simp
  | cons x l ih =>
    have h1 := h x (by simp)
    have h2 := ih fun y hy => h y (by simp [hy])
    simp only [List.map_cons, List.flatten_cons, List.length_append, List.sum_cons, Nat.mul_add]
    omega
theorem nodeRun_le {w : World} {n : Nd} {vm vn vl : Value} (hv : NdV w n vm vn vl) : (nodeRun n).length ≤ 300 + 100 * n.wt := by
  have k9 := frontRun_le hv.ino hv.links hv.size hv.head hv.tail hv.entries
  have k10 : (numStr n.log).length ≤ 22 * n.log.length := numStr_le (fun x hx => by obtain ⟨a, b, o, c, e, _, h⟩ := hv.log; obtain ⟨j, hj, rfl⟩ := List.getElem_of_mem hx; exact (h j _ (List.getElem?_eq_getElem hj)).2)
  have k11 : (n.map.map rnB).flatten.length ≤ 70 * n.map.length := by
    have := flat_le (l := n.map.map rnB) (m := 70) (fun x hx => by obtain ⟨y, hy, rfl⟩ := List.mem_map.1 hx; obtain ⟨a, b, o, c, e, _, h⟩ := hv.map; obtain ⟨j, hj, rfl⟩ := List.getElem_of_mem hy; exact rnB_le (h j _ (List.getElem?_eq_getElem hj)).2.2.2)
    simpa using this
  have k12 : (n.names.map dnB).flatten.length ≤ 100 * (n.names.map fun d => d.name.length + 1).sum :=
    flat_sum dnB (fun d => d.name.length + 1) 100 n.names (fun x hx => by obtain ⟨a, b, o, c, e, _, h⟩ := hv.names; obtain ⟨j, hj, rfl⟩ := List.getElem_of_mem hx; exact dnB_le' (h j _ (List.getElem?_eq_getElem hj)).2.2)
  have e1 : (logRun n).length ≤ 210 + 22 * n.log.length := by
    unfold logRun; split
    · omega
    · simp only [List.length_append, List.length_cons, List.length_nil]; omega
  have e2 : (mapRun n).length ≤ 220 + 22 * n.log.length + 70 * n.map.length := by
    unfold mapRun; split
    · simp only [List.length_append, List.length_cons, List.length_nil]; omega
    · omega
  unfold nodeRun Nd.wt; split
  · simp only [List.length_append, List.length_cons, List.length_nil]; omega
  · omega

abbrev StS (w : World) (t : St) (vn vf : Value) (w' : World) : Prop := w'.cell? ⟨w.heap.size, 0, none⟩ = some (.int .i64 t.pages) ∧ w'.cell? ⟨w.heap.size, 1, none⟩ = some (.int .i64 t.inodes) ∧ w'.cell? ⟨w.heap.size, 2, none⟩ = some (.int .i64 t.cores) ∧ w'.cell? ⟨w.heap.size, 3, none⟩ = some (.int .i64 t.data) ∧ w'.cell? ⟨w.heap.size, 4, none⟩ = some vn ∧ w'.cell? ⟨w.heap.size, 5, none⟩ = some vf ∧ Hid (Box w w.heap.size 27 [(.int .i64 t.pages), (.int .i64 t.inodes), (.int .i64 t.cores), (.int .i64 t.data), vn, vf] w')
theorem st_cells {w w' : World} {t : St} {vn vf : Value} (h : Box w w.heap.size 27 [(.int .i64 t.pages), (.int .i64 t.inodes), (.int .i64 t.cores), (.int .i64 t.data), vn, vf] w') : StS w t vn vf w' := ⟨h.1.cell 0, h.1.cell 1, h.1.cell 2, h.1.cell 3, h.1.cell 4, h.1.cell 5, Lib.hid h⟩
theorem StS.box {w w' : World} {t : St} {vn vf : Value} (h : StS w t vn vf w') : Box w w.heap.size 27 [(.int .i64 t.pages), (.int .i64 t.inodes), (.int .i64 t.cores), (.int .i64 t.data), vn, vf] w' := h.2.2.2.2.2.2.out

abbrev Sp2 (w : World) (t : St) (vn vf : Value) (B : Nat) (r : Sp) (v : Value) (n : Nat) (xs : List Value) (w' : World) : Prop :=
  w'.cell? ⟨B, 0, none⟩ = some (.int .i64 r.frm) ∧ w'.cell? ⟨B, 1, none⟩ = some (.int .i64 r.count) ∧ Hid (Row w' B 72 [.int .i64 r.frm, .int .i64 r.count]) ∧ Hid (w'.ownsRow w.heap.size 9 1 v n xs) ∧ Hid (StS w t vn vf w')
section
variable {w w' w1 : World} {t : St} {vn vf : Value} {B : Nat} {r : Sp} {v : Value} {n : Nat} {xs : List Value}
theorem Sp2.mk' (h : Row w' B 72 [.int .i64 r.frm, .int .i64 r.count]) (o : w'.ownsRow w.heap.size 9 1 v n xs) (k : StS w t vn vf w') : Sp2 w t vn vf B r v n xs w' := ⟨h.cell 0, h.cell 1, Lib.hid h, Lib.hid o, Lib.hid k⟩
theorem Sp2.row (h : Sp2 w t vn vf B r v n xs w') : Row w' B 72 [.int .i64 r.frm, .int .i64 r.count] := h.2.2.1.out
theorem Sp2.own (h : Sp2 w t vn vf B r v n xs w') : w'.ownsRow w.heap.size 9 1 v n xs := h.2.2.2.1.out
theorem Sp2.st (h : Sp2 w t vn vf B r v n xs w') : StS w t vn vf w' := h.2.2.2.2.out
theorem Sp2.new (h : StS w t vn vf w') (o : w'.ownsRow w.heap.size 9 1 v n xs) : Sp2 w t vn vf w'.heap.size r v n xs (w'.alloc (.cells #[.int .i64 r.frm, .int .i64 r.count] 72)) :=
  Sp2.mk' (Row.new w' 72 _) (o.alloc _) (st_cells (h.box.alloc _))
theorem Sp2.drew (h : Sp2 w t vn vf B r v n xs w') : Sp2 w t vn vf B r v n xs w'.drew := Sp2.mk' h.row.drew h.own (st_cells h.st.box.drew)
theorem Sp2.step (h : Sp2 w t vn vf B r v n xs w') (hb : Below w'.heap.size w' w1) : Sp2 w t vn vf B r v n xs w1 :=
  Sp2.mk' (h.row.below hb h.row.lt) (own_below h.own hb) (st_cells (h.st.box.step hb))
end
theorem lens_nodes {l : List Nd} (h : ∀ n ∈ l, (nodeRun n).length ≤ 300 + 100 * n.wt) : lens (l.map nodeRun) ≤ 300 * l.length + 100 * (l.map Nd.wt).sum := by
  induction l with
  | nil => simp [lens]
  | cons n l ih =>
    have h1 := h n (by simp)
    have h2 := ih fun y hy => h y (by simp [hy])
    simp only [lens, List.map_cons, List.sum_cons, List.length_cons, List.map_map] at h2 ⊢
    omega
/-- strings.Join of an owned row of texts. -/
theorem call_join {w : World} {base n : Nat} {v : Value} {ys : List (List UInt8)} {sep : List UInt8} (ho : w.ownsRow base 9 1 v n (ys.map fun l => .string (bs l))) (hn : 0 < n) (hN : n ≤ 1073741824) (hl : (join ys sep).length ≤ 140737488355328) :
    Calls Tryd.prog 35 #[v, .string (bs sep)] w fun e w' => e = .returned (.string (bs (join ys sep))) ∧ Below w.heap.size w w' := by
  have hy : ys.length = n := by simpa using ho.1
  have hc := fun g (hg : v.ownBlock = some g) => ho.cells hg
  have hlt := fun g (hg : v.ownBlock = some g) => (ho.lt g hg).2
  rcases ho.2 with ⟨_, h0⟩ | ⟨g, cap, cur, rfl, _, _, hnc, hm, _, _⟩
  · omega
  · have e : (ys.map bs).map (·.data.toList) = ys := by simp [Function.comp_def, bs]
    have h := Tryd.strings_Join g 0 cap (ys.map bs) (bs sep) w (fun j x hx => by
      have := hc g rfl j (.string x) (by simp only [List.getElem?_map, Option.map_eq_some_iff] at hx ⊢; obtain ⟨y, hy, rfl⟩ := hx; exact ⟨y, hy, rfl⟩)
      rw [Nat.zero_add]
      have ha : (⟨g, 0, none⟩ : Addr).add j = ⟨g, j, none⟩ := by unfold Addr.add; split <;> simp_all
      rw [← ha]; exact this) (hlt g rfl) (by simp; omega) (by simp; omega) (by rw [e]; exact hl)
    rw [e] at h
    simp only [List.length_map, hy] at h
    exact h
theorem info9' : (Tryd.prog.info? 9).map (fun i => (i.zero, i.size, i.bytes)) = some (some (.string ⟨#[]⟩), 1, 16) := by kernel_rfl

theorem take_succ_map {α β : Type} {f : α → β} {l : List α} {k : Nat} {x : α} (h : l[k]? = some x) : (l.take (k + 1)).map f = (l.take k).map f ++ [f x] := by
  rw [List.take_add_one, h]; simp
/-- A new row of one cell is owned. -/
theorem own_one (w : World) (base : Nat) (v : Value) (hb : base ≤ w.heap.size) : (w.alloc (.cells #[v] 9)).ownsRow base 9 1 (.slice (some ⟨w.heap.size, 0, none⟩) 1 1) 1 [v] :=
  ⟨rfl, .inr ⟨w.heap.size, 1, #[v], rfl, hb, heap_alloc_new w _, Nat.le_refl _, by decide, rfl, rfl⟩⟩

set_option maxHeartbeats 4000000 in
set_option maxRecDepth 100000 in
theorem call_state (t : St) (vn vf : Value) (w : World) (hv : StV w t vn vf) (hp : Pow w) (ht : KindTab w) :
    Calls Tryd.prog 12 #[.agg #[(.int .i64 t.pages), (.int .i64 t.inodes), (.int .i64 t.cores), (.int .i64 t.data), vn, vf]] w fun e w' => e = .returned (.string (bs (stateRun t))) ∧ Below w.heap.size w w' := by
  obtain ⟨i0, hi, hz0, hz1, hz2⟩ := info_parts info9'
  obtain ⟨mn, hmn⟩ : ∃ m, t.nodes.length = m := ⟨_, rfl⟩
  obtain ⟨mf, hmf⟩ : ∃ m, t.free.length = m := ⟨_, rfl⟩
  obtain ⟨an, cn, rfl⟩ : ∃ a c, vn = .slice a mn c := by obtain ⟨a, b, o, c, e, _⟩ := hv.nodes; rw [hmn] at e; exact ⟨a, c, e⟩
  obtain ⟨af, cf, rfl⟩ : ∃ a c, vf = .slice a mf c := by obtain ⟨a, b, o, c, e, _⟩ := hv.free; rw [hmf] at e; exact ⟨a, c, e⟩
  have HN := Lib.hid hmn
  have HF := Lib.hid hmf
  have bl1 : mn ≤ 1048576 := hmn ▸ hv.many
  have bl2 : mf ≤ 1048576 := hmf ▸ hv.spans
  have B0 := Lib.hid (Box.new w 27 [(.int .i64 t.pages), (.int .i64 t.inodes), (.int .i64 t.cores), (.int .i64 t.data), .slice an mn cn, .slice af mf cf])
  have B0' := Lib.hid (B0.out.alloc (.cells #[.int .i64 t.pages, .int .i64 t.inodes, .int .i64 t.cores] 3))
  have HS : Hid (Sl RInt 1 ((w.alloc (.cells #[(.int .i64 t.pages), (.int .i64 t.inodes), (.int .i64 t.cores), (.int .i64 t.data), .slice an mn cn, .slice af mf cf] 27)).alloc (.cells #[.int .i64 t.pages, .int .i64 t.inodes, .int .i64 t.cores] 3)) (.slice (some ⟨w.heap.size + 1, 0, none⟩) 3 3) [t.pages, t.inodes, t.cores]) := by
    have hr := Row.new (w.alloc (.cells #[(.int .i64 t.pages), (.int .i64 t.inodes), (.int .i64 t.cores), (.int .i64 t.data), .slice an mn cn, .slice af mf cf] 27)) 3 [.int .i64 t.pages, .int .i64 t.inodes, .int .i64 t.cores]
    refine ⟨_, w.heap.size + 1, 0, _, rfl, fun _ => rfl, fun j x hx => ?_⟩
    simp only [World.size_alloc] at hr
    have hc := hr.cell j
    match j, hx with
    | 0, hx => cases hx; exact ⟨hc, hv.pages⟩
    | 1, hx => cases hx; exact ⟨hc, hv.inodes⟩
    | 2, hx => cases hx; exact ⟨hc, hv.cores⟩
    | j + 3, hx => simp at hx
  have HPq := Lib.hid (hp.below (((Below.refl w.heap.size w).alloc (Nat.le_refl _) (.cells #[(.int .i64 t.pages), (.int .i64 t.inodes), (.int .i64 t.cores), (.int .i64 t.data), .slice an mn cn, .slice af mf cf] 27)).alloc (by simp) (.cells #[.int .i64 t.pages, .int .i64 t.inodes, .int .i64 t.cores] 3)))
  have HP := Lib.hid hp
  have HT := Lib.hid ht
  have HV := Lib.hid hv
  have z1 : w.cell? ⟨w.heap.size, 0, none⟩ = w.cell? ⟨w.heap.size, 0, none⟩ := rfl
  have k1 : (numStr [t.pages, t.inodes, t.cores]).length ≤ 100 := by
    have := numStr_le (xs := [t.pages, t.inodes, t.cores]) (fun x hx => by simp only [List.mem_cons, List.mem_nil_iff, or_false] at hx; rcases hx with rfl | rfl | rfl; exact hv.pages; exact hv.inodes; exact hv.cores)
    simp only [List.length_cons, List.length_nil] at this; omega
  obtain ⟨sa20, ha20, la20, qa20⟩ := sumLB Tryd.prog ([32, 32, 115, 104, 97, 112, 101, 32]) (numStr [t.pages, t.inodes, t.cores]) 108 (by (try simp only [List.length_cons, List.length_nil]); omega) (by omega)
  obtain rfl : sa20 = shapeRun t := by rw [ha20.out]; rfl
  clear hp ht hv hmn hmf z1
  go_enter Tryd.func12, Tryd.ntmps12
  go_wp2_with fail
  refine (call_numbers _ [t.pages, t.inodes, t.cores] _ HS.out (by simp) HPq.out).mono ?_
  rintro e w1 ⟨rfl, hb1⟩
  have hS : StS w t (.slice an mn cn) (.slice af mf cf) w1 := st_cells (B0'.out.step hb1)
  have hq1 : w.heap.size ≤ w1.heap.size := hS.box.2.size
  have own1 := Lib.hid (own_one w1 w.heap.size (.string (bs (shapeRun t))) hq1)
  have B1 : StS w t (.slice an mn cn) (.slice af mf cf) (w1.alloc (.cells #[.string (bs (shapeRun t))] 9)) := st_cells (hS.box.alloc _)
  clear hb1 HS HPq B0 B0'
  go_wp2_with fail
  go_loopw [3, 25] (fun v3 i wr => ∃ (k : Nat) (v : Value), v3 = v ∧ i = .int .i64 k ∧ k ≤ mn ∧ Hid (wr.ownsRow w.heap.size 9 1 v (k + 1) (([shapeRun t] ++ (t.nodes.take k).map nodeRun).map fun l => .string (bs l))) ∧ StS w t (.slice an mn cn) (.slice af mf cf) wr)
    (fun _ i _ => mn - (RowKit.intOf i).toNat)
  case atStart => exact ⟨0, _, rfl, rfl, Nat.zero_le _, own1, B1⟩
  case round =>
    obtain ⟨k, v, rfl, rfl, hkm, hown, hS⟩ := hrel
    clear own1 B1
    by_cases hlt : k < mn
    · obtain ⟨r, hr⟩ : ∃ r, t.nodes[k]? = some r := ⟨_, List.getElem?_eq_getElem (by have := HN.out; omega)⟩
      obtain ⟨aa, bb, oo, cc, ee, ha, hc⟩ := HV.out.nodes.keep RNd.stays (keeps_below hS.box.2)
      rw [HN.out] at ee ha
      cases ee
      have ha' := ha (by omega)
      subst ha'
      obtain ⟨vm, vn, vl, m0, m1, m2, m3, m4, m5, m6, m7, m8, m9, hnd⟩ := hc k r hr
      obtain ⟨x1, y1, rfl⟩ : ∃ a c, vm = .slice a r.map.length c := by obtain ⟨a, b, o, c, e, _⟩ := hnd.map; exact ⟨a, c, e⟩
      obtain ⟨x2, y2, rfl⟩ : ∃ a c, vn = .slice a r.names.length c := by obtain ⟨a, b, o, c, e, _⟩ := hnd.names; exact ⟨a, c, e⟩
      obtain ⟨x3, y3, rfl⟩ : ∃ a c, vl = .slice a r.log.length c := by obtain ⟨a, b, o, c, e, _⟩ := hnd.log; exact ⟨a, c, e⟩
      have hr' := Lib.hid hr
      have HND := Lib.hid hnd
      clear hr ha hc hnd
      go_wp2_with fail
      refine (call_node r _ _ _ _ (HND.out.keep (keeps_alloc _ _)) (HV.out.small (List.mem_of_getElem? hr'.out)) (HP.out.below (hS.box.alloc _).2) (HT.out.below (hS.box.alloc _).2)).mono ?_
      rintro e w2 ⟨rfl, hb2⟩
      have hS2 : StS w t (.slice (some ⟨bb, oo, none⟩) mn cn) (.slice af mf cf) w2 := st_cells ((hS.box.alloc _).step hb2)
      have own2 := Lib.hid (own_below (hown.out.alloc _) hb2)
      have hq2 : w.heap.size ≤ w2.heap.size := hS2.box.2.size
      have ne2 := Lib.hid (own_row_ne own2.out hS2.box.1 (by decide))
      have hq0 := hS.box.2.size
      clear hb2 hS m0 m1 m2 m3 m4 m5 m6 m7 m8 m9
      go_wp2_with (at_builtin; refine wpList_append_own _ rfl _ _ 74 rfl w.heap.size 9 i0 (.string ⟨#[]⟩) 1 16 Tryd.underlying74 hi hz0 hz1 hz2 rfl (by decide) _ _ _ rfl (own2.out.alloc _) ⟨w2.heap.size, 0, none⟩ 1 1 [.string (bs (nodeRun r))] rfl rfl (cell_one_new _ _ _) ?c2 ?c3 ?c4 ?c5 ?_)
      case c2 => simp [Value.oneCell']
      case c3 => unfold maxLen; omega
      case c4 => omega
      case c5 => simp; omega
      intro v' w3 hown3 hgrow3 _
      have hS3 : StS w t (.slice (some ⟨bb, oo, none⟩) mn cn) (.slice af mf cf) w3 := st_cells ⟨(hS2.box.1.alloc _).grown hgrow3 ne2.out, (hS2.box.2.alloc hS2.box.2.size _).grown hgrow3 (by simp; omega) (fun g hg => own_base own2.out g hg)⟩
      have O3 := Lib.hid hown3
      clear hown3 hgrow3 hS2
      go_wp2
      go_roundw
      case rel => exact ⟨k + 1, v', rfl, by go_num, by omega, by show World.ownsRow _ _ _ _ _ _ _; rw [take_succ_map hr'.out]; simpa using O3.out, hS3⟩
      case measure => simp [RowKit.intOf]; omega
    · obtain rfl : k = mn := by omega
      have hx : (([shapeRun t] ++ (t.nodes.take k).map nodeRun).map fun l => Value.string (bs l)) = (([shapeRun t] ++ t.nodes.map nodeRun).map fun l => Value.string (bs l)) := by rw [List.take_of_length_le (by have := HN.out; omega)]
      rw [hx] at hown
      have O0 := hown
      have S0 := Lib.hid hS
      clear hx hown
      go_wp2_with fail
      clear hS
      go_loopw [6, 38] (fun v6 i wx => ∃ (m : Nat) (s : List UInt8), v6 = .string (bs s) ∧ i = .int .i64 m ∧ m ≤ mf ∧ Hid (s = [32, 32, 102, 114, 101, 101] ++ ((t.free.take m).map spB).flatten) ∧ Hid (wx.ownsRow w.heap.size 9 1 u3 (k + 1) (([shapeRun t] ++ t.nodes.map nodeRun).map fun l => .string (bs l))) ∧ StS w t (.slice an k cn) (.slice af mf cf) wx)
        (fun _ i _ => mf - (RowKit.intOf i).toNat)
      case atStart => exact ⟨0, [32, 32, 102, 114, 101, 101], rfl, rfl, Nat.zero_le _, by simp [Hid], O0, S0.out⟩
      case round =>
        clear O0 S0
        obtain ⟨m, s, rfl, rfl, hmm, hs, hown, hS⟩ := hrel
        by_cases hlm : m < mf
        · obtain ⟨r, hr⟩ : ∃ r, t.free[m]? = some r := ⟨_, List.getElem?_eq_getElem (by have := HF.out; omega)⟩
          obtain ⟨aa, bb, oo, cc, ee, ha, hc⟩ := HV.out.free.keep RSp.stays (keeps_below hS.box.2)
          rw [HF.out] at ee ha
          cases ee
          have ha' := ha (by omega)
          subst ha'
          obtain ⟨m0, m1, i0', i1'⟩ := hc m r hr
          have j0 := itoa_le i0'; have j1 := itoa_le i1'
          have ls : s.length ≤ 200000000 := by
            rw [hs.out]
            have := flat_le (l := (t.free.take m).map spB) (m := 50) (fun x hx => by
              obtain ⟨y, hy, rfl⟩ := List.mem_map.1 hx
              obtain ⟨j, hj, rfl⟩ := List.getElem_of_mem (List.mem_of_mem_take hy)
              exact spB_le (hc j _ (List.getElem?_eq_getElem hj)).2.2.1 (hc j _ (List.getElem?_eq_getElem hj)).2.2.2)
            have h5 := HV.out.spans
            have h6 : ((t.free.take m).map spB).length ≤ t.free.length := by simp; omega
            simp only [List.length_append, List.length_cons, List.length_nil]
            omega
          obtain ⟨sb46, hb46, lb46, qb46⟩ := sumLB Tryd.prog ([32]) (itoa r.frm) 22 (by (try simp only [List.length_cons, List.length_nil]); omega) (by omega)
          obtain ⟨sb47, hb47, lb47, qb47⟩ := sumBL Tryd.prog (sb46) ([43]) 23 (by (try simp only [List.length_cons, List.length_nil]); omega) (by omega)
          obtain ⟨sb51, hb51, lb51, qb51⟩ := sumBB Tryd.prog (sb47) (itoa r.count) 44 (by (try simp only [List.length_cons, List.length_nil]); omega) (by omega)
          obtain ⟨sb52, hb52, lb52, qb52⟩ := sumBB Tryd.prog (s) (sb51) 200000044 (by (try simp only [List.length_cons, List.length_nil]); omega) (by omega)
          obtain rfl : sb52 = s ++ spB r := by unfold spB; rw [hb52.out, hb51.out, hb47.out, hb46.out]
          have hr' := Lib.hid hr
          have I0 := Lib.hid i0'; have I1 := Lib.hid i1'
          clear hr ha hc i0' i1'
          have R0 := Lib.hid (Sp2.new (r := r) hS hown.out)
          clear hS hown
          go_wp2_with fail
          go_region_held3 (fun w' => Sp2 w t (.slice an k cn) (.slice (some ⟨bb, oo, none⟩) mf cf) wr.heap.size r u3 (k + 1) (([shapeRun t] ++ t.nodes.map nodeRun).map fun l => .string (bs l)) w')
            (first | exact Sp2.drew R0.out | exact Sp2.step ‹Sp2 w t _ _ _ _ _ _ _ _› hb1)
            (first | (go_at_call 32; refine (call_itoa _ (by first | exact I0.out.1 | exact I1.out.1) (by first | exact I0.out.2 | exact I1.out.2) _ (HP.out.below (Sp2.st ‹Sp2 w t _ _ _ _ _ _ _ _›).box.2)).mono ?_; rintro e w1 ⟨rfl, hb1⟩))
          have hS' := Lib.hid (Sp2.st ‹Sp2 w t _ _ _ _ _ _ _ _›)
          have hO' := Lib.hid (Sp2.own ‹Sp2 w t _ _ _ _ _ _ _ _›)
          go_wp2
          go_roundw
          case rel => exact ⟨m + 1, _, rfl, by go_num, by omega, by show _ = _; rw [hs.out, take_map_succ hr'.out]; simp, hO'.out, hS'.out⟩
          case measure => simp [RowKit.intOf]; omega
        · obtain rfl : m = mf := by omega
          have e6 : s = freeRun t := by rw [hs.out, List.take_of_length_le (by have := HF.out; omega)]; rfl
          subst e6
          have hq2 := hS.box.2.size
          have ne2 := Lib.hid (own_row_ne hown.out hS.box.1 (by decide))
          have HB := Lib.hid hS.box.2
          have hlen : (join (linesRun t) [10]).length ≤ 140737488355328 := by
            have h1 := join_le (linesRun t) [10]
            have h2 : lens (t.nodes.map nodeRun) ≤ 300 * t.nodes.length + 100 * (t.nodes.map Nd.wt).sum := lens_nodes (fun n hn => by
              obtain ⟨a, b, o, c, e, _, h⟩ := HV.out.nodes
              obtain ⟨j, hj, rfl⟩ := List.getElem_of_mem hn
              obtain ⟨vm, vn, vl, _, _, _, _, _, _, _, _, _, _, hv⟩ := h j _ (List.getElem?_eq_getElem hj)
              exact nodeRun_le hv)
            have h3 : (freeRun t).length ≤ 6 + 50 * t.free.length := by
              have := flat_le (l := t.free.map spB) (m := 50) (fun x hx => by
                obtain ⟨y, hy, rfl⟩ := List.mem_map.1 hx
                obtain ⟨a, b, o, c, e, _, h⟩ := HV.out.free
                obtain ⟨j, hj, rfl⟩ := List.getElem_of_mem hy
                exact spB_le (h j _ (List.getElem?_eq_getElem hj)).2.2.1 (h j _ (List.getElem?_eq_getElem hj)).2.2.2)
              simp only [freeRun, List.length_append, List.length_cons, List.length_nil, List.length_map] at this ⊢
              omega
            have h4 := HV.out.wt
            have h5 := HV.out.many
            have h6 := HV.out.spans
            have h7 : (linesRun t).length = t.nodes.length + 2 := by simp [linesRun]
            have h8 : lens (linesRun t) = (shapeRun t).length + lens (t.nodes.map nodeRun) + (freeRun t).length := by simp [linesRun, lens]; omega
            simp only [List.length_cons, List.length_nil] at h1
            omega
          have HLn := Lib.hid hlen
          clear hS hlen
          go_wp2_with (at_builtin; refine wpList_append_own _ rfl _ _ 74 rfl w.heap.size 9 i0 (.string ⟨#[]⟩) 1 16 Tryd.underlying74 hi hz0 hz1 hz2 rfl (by decide) _ _ _ rfl (hown.out.alloc _) ⟨wr.heap.size, 0, none⟩ 1 1 [.string (bs (freeRun t))] rfl rfl (cell_one_new _ _ _) ?d2 ?d3 ?d4 ?d5 ?_)
          case d2 => simp [Value.oneCell']
          case d3 => unfold maxLen; omega
          case d4 => omega
          case d5 => simp; omega
          intro v' w3 hown3 hgrow3 _
          have hb3 := Lib.hid ((HB.out.alloc HB.out.size (.cells #[.string (bs (freeRun t))] 9)).grown hgrow3 (by simp; omega) (fun g hg => own_base hown.out g hg))
          have O3 : Hid (w3.ownsRow w.heap.size 9 1 v' (k + 1 + 1) ((linesRun t).map fun l => .string (bs l))) := by
            show World.ownsRow _ _ _ _ _ _ _
            simpa [linesRun] using hown3
          clear hown3 hgrow3
          go_wp2_with fail
          refine (call_join O3.out (by omega) (by omega) HLn.out).mono ?_
          rintro e w4 ⟨rfl, hb4⟩
          go_wp2
          go_ret
          exact ⟨rfl, below_then hb3.out hb3.out.size hb4⟩
end Go.Proofs.YtlecpjfggoehdaaDoor.Rs
