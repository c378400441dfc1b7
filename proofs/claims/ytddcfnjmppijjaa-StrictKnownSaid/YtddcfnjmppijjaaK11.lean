import Derived.Test.YtddcfnjmppijjaaK8
import Derived.Test.YtddcfnjmppijjaaK10
import Derived.Test.YtddcfnjmppijjaaU25
/-! StrictKnown's walk. -/
namespace Go.Proofs.Ytddcfnjmppijjaa
open Go.RowKit

theorem ne_lam2 {s t : Str} {x : X} (hx : Ne x) : Ne (.mk 6 [] [s, t] [x]) := ⟨.mk _ _ _ _ (by simp) (by simp) (by simp) (by simp) (by simpa using hx.1), .mk _ _ _ _ (by simp) (by simp) (by simp) (by simpa using hx.2.1), .mk _ _ _ _ (by simp) (by simpa using hx.2.2)⟩
theorem ne_app {x y z : X} (hx : Ne x) (hy : Ne y) (hz : Ne z) : Ne (.mk 7 [] [] [x, y, z]) := ⟨.mk _ _ _ _ (by simp) (by simp) (by simp) (by simp) (by simp [hx.1, hy.1, hz.1]), .mk _ _ _ _ (by simp) (by simp) (by simp) (by simp [hx.2.1, hy.2.1, hz.2.1]), .mk _ _ _ _ (by simp) (by simp [hx.2.2, hy.2.2, hz.2.2])⟩
theorem ne_one : Ne kOne := ⟨.mk _ _ _ _ (by simp) (by simp) (by simp) (by simp) (by simp), .mk _ _ _ _ (by simp) (by simp) (by simp) (by simp), .mk _ _ _ _ (by simp) (by simp)⟩
theorem ne_kN : Ne kN := ne_var (by simp)
theorem ne_kA : Ne kA := ne_var (by simp)
theorem ne_kF : Ne kF := ne_var (by simp)
theorem ne_kLess : Ne kLess := ne_prim (by simp) ne_kN ne_one
theorem ne_kZero : Ne kZero := ne_prim (by simp) ne_kN ne_one
theorem ne_kPlus : Ne kPlus := ne_prim (by simp) ne_kA ne_kN
theorem ne_kLoop : Ne kLoop := ne_if ne_kZero ne_kA (ne_app ne_kF ne_kLess ne_kPlus)
theorem ne_kLazy : Ne kLazy := ne_if ne_kZero ne_one (ne_app ne_kF ne_kLess ne_kA)
theorem ne_kEver : Ne kEver := ne_app ne_kF ne_kN ne_kA
theorem ne_kPair : Ne kPair := ne_prim (by simp) ne_kN ne_kA
theorem ne_kTop {b : X} (h : Ne b) : Ne (kTop b) := ne_bind (ne_lam2 h) ne_kF

/-- a term's fields read -/
def LmD.ok (w : World) (d : LmD) : Prop := Nm w (fun _ => False) (.slice d.an d.x.names.length d.cn) d.x.names ∧ Row w (fun _ => False) (.slice d.aa d.x.parts.length d.ca) d.x.parts
theorem LmD.ok.grew {w w' : World} {d : LmD} (h : d.ok w) (k : Grew w w') : d.ok w' := ⟨h.1.grew k, h.2.grew k⟩
/-- a term without names and parts -/
abbrev dA (k : Int) (t : Str) : LmD := ⟨[], .mk k t [] [], none, 0, none, 0⟩
theorem dA.ok (w : World) (k : Int) (t : Str) : (dA k t).ok w := ⟨Nm.nil _ _, .nil none 0 (Nat.zero_le _)⟩
/-- a term of the terms of a row -/
abbrev dN (k : Int) (t : Str) (g n : Nat) (ps : List X) : LmD := ⟨[], .mk k t [] ps, none, 0, some ⟨g, 0, none⟩, n⟩
theorem dN.ok {w : World} {g : Nat} {L : List LmD} (k : Int) (t : Str) (h : w.heap[g]? = some (.cells (L.flatMap LmD.xc).toArray 28 (0, 0))) (hrd : ∀ d ∈ L, d.ok w) (hl : L.length ≤ 1000) : (dN k t g L.length (L.map (·.x))).ok w := by
  refine ⟨Nm.nil _ _, ?_⟩
  have := row_flat h hrd (fun f => f) hl
  show Row w _ (.slice (some ⟨g, 0, none⟩) (L.map (·.x)).length L.length) (L.map (·.x))
  rw [List.length_map]
  exact this
/-- a term in a block of its own -/
def LmD.at (w : World) (g : Nat) (d : LmD) : Prop := w.heap[g]? = some (.cells d.xc.toArray 28 (0, 0)) ∧ d.ok w
theorem LmD.at.grew {w w' : World} {g : Nat} {d : LmD} (h : d.at w g) (k : Grew w w') : d.at w' g := ⟨k.get h.1 (fun f => f), h.2.grew k⟩
theorem LmD.at.cells {w : World} {g : Nat} {d : LmD} (h : d.at w g) : w.cell? ⟨g, 0, none⟩ = some (Kv d.x.kind) ∧ w.cell? ⟨g, 1, none⟩ = some (St d.x.text) ∧ w.cell? ⟨g, 2, none⟩ = some (.slice d.an d.x.names.length d.cn) ∧ w.cell? ⟨g, 3, none⟩ = some (.slice d.aa d.x.parts.length d.ca) :=
  ⟨cell_of_get h.1 0, cell_of_get h.1 1, cell_of_get h.1 2, cell_of_get h.1 3⟩
theorem LmD.ok.at {w : World} {d : LmD} (h : d.ok w) : d.at (w.alloc (.cells d.xc.toArray 28)) w.heap.size := ⟨heap_alloc_new _ _, h.grew ((Fr.refl _ _).alloc _)⟩
/-- two names in a block -/
def FTx (v : Value) (w : World) : Prop := ∃ g, v = .slice (some ⟨g, 0, none⟩) 2 2 ∧ w.heap[g]? = some (.cells #[St [110], St [97, 99, 99]] 9 (0, 0))
theorem FTx.stays (v : Value) (w w' : World) (h : Grew w w') (k : FTx v w) : FTx v w' := by
  obtain ⟨g, e, h1⟩ := k
  exact ⟨g, e, h.get h1 (fun f => f)⟩
theorem FTx.nm {g : Nat} {w : World} (e : w.heap[g]? = some (.cells #[St [110], St [97, 99, 99]] 9 (0, 0))) : Nm w (fun _ => False) (.slice (some ⟨g, 0, none⟩) 2 2) [[110], [97, 99, 99]] := ⟨_, 2, rfl, Nat.le_refl _, by simp [maxLen], .inr ⟨_, 0, rfl, fun f => f, fun i hi => by
    have hi3 : i = 0 ∨ i = 1 := by simp at hi; omega
    rw [Nat.zero_add, cell_of_get e]
    rcases hi3 with rfl | rfl <;> rfl⟩⟩
/-- a row of one term -/
def FRw (x : X) (v : Value) (w : World) : Prop := ∃ g, v = .slice (some ⟨g, 0, none⟩) 1 1 ∧ Row w (fun _ => False) (.slice (some ⟨g, 0, none⟩) 1 1) [x]
theorem FRw.stays (x : X) (v : Value) (w w' : World) (h : Grew w w') (k : FRw x v w) : FRw x v w' := by
  obtain ⟨g, e, h1⟩ := k
  exact ⟨g, e, h1.grew h⟩
/-- a term in memory -/
def FRt (x : X) (v : Value) (w : World) : Prop := Rd w (fun _ => False) v x
theorem FRt.stays (x : X) (v : Value) (w w' : World) (h : Grew w w') (k : FRt x v w) : FRt x v w' := Rd.grew k h
/-- a row made, and a term of it -/
theorem dN.new {w : World} (L : List LmD) (k : Int) (t : Str) (hrd : ∀ d ∈ L, d.ok w) (hl : L.length ≤ 1000) : (dN k t w.heap.size L.length (L.map (·.x))).ok (w.alloc (.cells (L.flatMap LmD.xc).toArray 28)) :=
  dN.ok k t (heap_alloc_new _ _) (fun d hd => (hrd d hd).grew ((Fr.refl _ _).alloc _)) hl

theorem hp1_1 (w : World) (o1 : Obj) : (w.alloc o1).heap[w.heap.size]? = some o1 := by
  have := heap_alloc_new w o1
  simpa using this
theorem hp2_1 (w : World) (o1 o2 : Obj) : ((w.alloc o1).alloc o2).heap[w.heap.size]? = some o1 := ((Fr.refl (fun _ => False) _).alloc _).get (hp1_1 w o1) (fun f => f)
theorem hp2_2 (w : World) (o1 o2 : Obj) : ((w.alloc o1).alloc o2).heap[w.heap.size + 1]? = some o2 := by
  have := heap_alloc_new (w.alloc o1) o2
  simpa using this
theorem hp3_1 (w : World) (o1 o2 o3 : Obj) : (((w.alloc o1).alloc o2).alloc o3).heap[w.heap.size]? = some o1 := ((Fr.refl (fun _ => False) _).alloc _).get (hp2_1 w o1 o2) (fun f => f)
theorem hp3_2 (w : World) (o1 o2 o3 : Obj) : (((w.alloc o1).alloc o2).alloc o3).heap[w.heap.size + 1]? = some o2 := ((Fr.refl (fun _ => False) _).alloc _).get (hp2_2 w o1 o2) (fun f => f)
theorem hp3_3 (w : World) (o1 o2 o3 : Obj) : (((w.alloc o1).alloc o2).alloc o3).heap[w.heap.size + 1 + 1]? = some o3 := by
  have := heap_alloc_new ((w.alloc o1).alloc o2) o3
  simpa using this
theorem hp4_1 (w : World) (o1 o2 o3 o4 : Obj) : ((((w.alloc o1).alloc o2).alloc o3).alloc o4).heap[w.heap.size]? = some o1 := ((Fr.refl (fun _ => False) _).alloc _).get (hp3_1 w o1 o2 o3) (fun f => f)
theorem hp4_2 (w : World) (o1 o2 o3 o4 : Obj) : ((((w.alloc o1).alloc o2).alloc o3).alloc o4).heap[w.heap.size + 1]? = some o2 := ((Fr.refl (fun _ => False) _).alloc _).get (hp3_2 w o1 o2 o3) (fun f => f)
theorem hp4_3 (w : World) (o1 o2 o3 o4 : Obj) : ((((w.alloc o1).alloc o2).alloc o3).alloc o4).heap[w.heap.size + 1 + 1]? = some o3 := ((Fr.refl (fun _ => False) _).alloc _).get (hp3_3 w o1 o2 o3) (fun f => f)
theorem hp4_4 (w : World) (o1 o2 o3 o4 : Obj) : ((((w.alloc o1).alloc o2).alloc o3).alloc o4).heap[w.heap.size + 1 + 1 + 1]? = some o4 := by
  have := heap_alloc_new (((w.alloc o1).alloc o2).alloc o3) o4
  simpa using this
abbrev C4 (w : World) (g : Nat) (k : Int) (t : Str) (a : Option Addr) (n : Nat) : Prop := w.cell? ⟨g, 0, none⟩ = some (Kv k) ∧ w.cell? ⟨g, 1, none⟩ = some (St t) ∧ w.cell? ⟨g, 2, none⟩ = some (.slice none 0 0) ∧ w.cell? ⟨g, 3, none⟩ = some (.slice a n n)

set_option maxHeartbeats 8000000 in
set_option maxRecDepth 100000 in
theorem sknown_walk (W : World) (n : Int) : Calls Try.prog 6 #[.int .i64 n] W fun e W' => e = .returned (.bool true) ∧ Grew W W' := by
  have hk := known8_any W
  go_enter Try.func6, Try.ntmps6
  go_upto_region 3 with (go_at_call 16; (with_reducible refine hk.mono ?_); rintro e w1 ⟨rfl, hg1⟩; clear hk)
  have HG1 := hid hg1
  clear hg1
  go_wp2_with fail
  refine (var_any _ _).mono ?_
  rintro e w2 ⟨rfl, hg2⟩
  have HG2 := hid (HG1.out.trans hg2 (fun _ _ f => f))
  clear hg2
  go_wp2_with fail
  refine (var_any _ _).mono ?_
  rintro e w3 ⟨rfl, hg3⟩
  have HG3 := hid (HG2.out.trans hg3 (fun _ _ f => f))
  clear hg3
  go_wp2_with fail
  refine (var_any _ _).mono ?_
  rintro e w4 ⟨rfl, hg4⟩
  have HG4 := hid (HG3.out.trans hg4 (fun _ _ f => f))
  clear hg4 HG1 HG2 HG3
  go_upto_region 4 with (fail)
  obtain ⟨W4, hW4⟩ : ∃ q : World, q = (((w4.alloc (.cells #[Kv 5, St [110], .slice none 0 0, .slice none 0 0] 28)).alloc (.cells #[Kv 5, St [97, 99, 99], .slice none 0 0, .slice none 0 0] 28)).alloc (.cells #[Kv 5, St [102], .slice none 0 0, .slice none 0 0] 28)) := ⟨_, rfl⟩
  have gW4 : Grew w4 W4 := by rw [hW4]; exact (((Fr.refl _ _).alloc _).alloc _).alloc _
  have HN := hid (show (dA 5 [110]).at W4 w4.heap.size from ⟨by rw [hW4]; exact hp3_1 w4 _ _ _, dA.ok _ _ _⟩)
  have HA := hid (show (dA 5 [97, 99, 99]).at W4 (w4.heap.size + 1) from ⟨by rw [hW4]; exact hp3_2 w4 _ _ _, dA.ok _ _ _⟩)
  have HF := hid (show (dA 5 [102]).at W4 (w4.heap.size + 1 + 1) from ⟨by rw [hW4]; exact hp3_3 w4 _ _ _, dA.ok _ _ _⟩)
  have HGW4 := hid (HG4.out.trans gW4 (fun _ _ f => f))
  rw [← hW4]
  clear hW4 gW4 HG4
  have HGW := HGW4
  clear HGW4
  go_upto_region 5 with (fail)
  obtain ⟨W5, hW5⟩ : ∃ q : World, q = (W4.alloc (.cells #[Kv 1, St [49], .slice none 0 0, .slice none 0 0] 28)) := ⟨_, rfl⟩
  have gW5 : Grew W4 W5 := by rw [hW5]; exact (Fr.refl _ _).alloc _
  have HO := hid (show (dA 1 [49]).at W5 (W4.heap.size) from ⟨by rw [hW5]; exact hp1_1 W4 _ , dA.ok _ _ _⟩)
  replace HN := hid (HN.out.grew gW5)
  replace HA := hid (HA.out.grew gW5)
  replace HF := hid (HF.out.grew gW5)
  replace HGW := hid (HGW.out.trans gW5 (fun _ _ f => f))
  rw [← hW5]
  clear hW5 gW5
  obtain ⟨n0, n1, n2, n3⟩ : C4 W5 (w4.heap.size) 5 [110] none 0 := HN.out.cells
  obtain ⟨o0, o1, o2, o3⟩ : C4 W5 (W4.heap.size) 1 [49] none 0 := HO.out.cells
  go_upto_region 6 with (fail)
  obtain ⟨W6, hW6⟩ : ∃ q : World, q = ((W5.alloc (.cells #[Kv 5, St [110], .slice none 0 0, .slice none 0 0, Kv 1, St [49], .slice none 0 0, .slice none 0 0] 28)).alloc (.cells #[Kv 10, St [45], .slice none 0 0, .slice (some ⟨W5.heap.size, 0, none⟩) 2 2] 28)) := ⟨_, rfl⟩
  have gW6 : Grew W5 W6 := by rw [hW6]; exact ((Fr.refl _ _).alloc _).alloc _
  have r0 : (dN 10 [45] (W5.heap.size) 2 [kN, kOne]).ok W6 := dN.ok (L := [(dA 5 [110]), (dA 1 [49])]) 10 [45] (by rw [hW6]; exact hp2_1 W5 _ _ ) (by
    intro d hd
    simp only [List.mem_cons, List.not_mem_nil, or_false] at hd
    rcases hd with rfl | rfl <;> first | exact dA.ok _ _ _) (by simp)
  have HL := hid (show (dN 10 [45] (W5.heap.size) 2 [kN, kOne]).at W6 (W5.heap.size + 1) from ⟨by rw [hW6]; exact hp2_2 W5 _ _ , r0⟩)
  replace HN := hid (HN.out.grew gW6)
  replace HA := hid (HA.out.grew gW6)
  replace HF := hid (HF.out.grew gW6)
  replace HO := hid (HO.out.grew gW6)
  replace HGW := hid (HGW.out.trans gW6 (fun _ _ f => f))
  rw [← hW6]
  clear hW6 gW6 n0 n1 n2 n3 o0 o1 o2 o3 r0
  obtain ⟨n0, n1, n2, n3⟩ : C4 W6 (w4.heap.size) 5 [110] none 0 := HN.out.cells
  obtain ⟨o0, o1, o2, o3⟩ : C4 W6 (W4.heap.size) 1 [49] none 0 := HO.out.cells
  go_upto_region 7 with (fail)
  obtain ⟨W7, hW7⟩ : ∃ q : World, q = ((W6.alloc (.cells #[Kv 5, St [110], .slice none 0 0, .slice none 0 0, Kv 1, St [49], .slice none 0 0, .slice none 0 0] 28)).alloc (.cells #[Kv 10, St [61], .slice none 0 0, .slice (some ⟨W6.heap.size, 0, none⟩) 2 2] 28)) := ⟨_, rfl⟩
  have gW7 : Grew W6 W7 := by rw [hW7]; exact ((Fr.refl _ _).alloc _).alloc _
  have r0 : (dN 10 [61] (W6.heap.size) 2 [kN, kOne]).ok W7 := dN.ok (L := [(dA 5 [110]), (dA 1 [49])]) 10 [61] (by rw [hW7]; exact hp2_1 W6 _ _ ) (by
    intro d hd
    simp only [List.mem_cons, List.not_mem_nil, or_false] at hd
    rcases hd with rfl | rfl <;> first | exact dA.ok _ _ _) (by simp)
  have HZ := hid (show (dN 10 [61] (W6.heap.size) 2 [kN, kOne]).at W7 (W6.heap.size + 1) from ⟨by rw [hW7]; exact hp2_2 W6 _ _ , r0⟩)
  replace HN := hid (HN.out.grew gW7)
  replace HA := hid (HA.out.grew gW7)
  replace HF := hid (HF.out.grew gW7)
  replace HO := hid (HO.out.grew gW7)
  replace HL := hid (HL.out.grew gW7)
  replace HGW := hid (HGW.out.trans gW7 (fun _ _ f => f))
  rw [← hW7]
  clear hW7 gW7 n0 n1 n2 n3 o0 o1 o2 o3 r0
  obtain ⟨z0, z1, z2, z3⟩ : C4 W7 (W6.heap.size + 1) 10 [61] (some ⟨W6.heap.size, 0, none⟩) 2 := HZ.out.cells
  obtain ⟨a0, a1, a2, a3⟩ : C4 W7 (w4.heap.size + 1) 5 [97, 99, 99] none 0 := HA.out.cells
  obtain ⟨f0, f1, f2, f3⟩ : C4 W7 (w4.heap.size + 1 + 1) 5 [102] none 0 := HF.out.cells
  obtain ⟨l0, l1, l2, l3⟩ : C4 W7 (W5.heap.size + 1) 10 [45] (some ⟨W5.heap.size, 0, none⟩) 2 := HL.out.cells
  obtain ⟨n0, n1, n2, n3⟩ : C4 W7 (w4.heap.size) 5 [110] none 0 := HN.out.cells
  go_upto_region 8 with (fail)
  obtain ⟨W8, hW8⟩ : ∃ q : World, q = ((((W7.alloc (.cells #[Kv 5, St [97, 99, 99], .slice none 0 0, .slice none 0 0, Kv 5, St [110], .slice none 0 0, .slice none 0 0] 28)).alloc (.cells #[Kv 5, St [102], .slice none 0 0, .slice none 0 0, Kv 10, St [45], .slice none 0 0, .slice (some ⟨W5.heap.size, 0, none⟩) 2 2, Kv 10, St [43], .slice none 0 0, .slice (some ⟨W7.heap.size, 0, none⟩) 2 2] 28)).alloc (.cells #[Kv 10, St [61], .slice none 0 0, .slice (some ⟨W6.heap.size, 0, none⟩) 2 2, Kv 5, St [97, 99, 99], .slice none 0 0, .slice none 0 0, Kv 7, St [], .slice none 0 0, .slice (some ⟨W7.heap.size + 1, 0, none⟩) 3 3] 28)).alloc (.cells #[Kv 8, St [], .slice none 0 0, .slice (some ⟨W7.heap.size + 1 + 1, 0, none⟩) 3 3] 28)) := ⟨_, rfl⟩
  have gW8 : Grew W7 W8 := by rw [hW8]; exact ((((Fr.refl _ _).alloc _).alloc _).alloc _).alloc _
  have r0 : (dN 10 [43] (W7.heap.size) 2 [kA, kN]).ok W8 := dN.ok (L := [(dA 5 [97, 99, 99]), (dA 5 [110])]) 10 [43] (by rw [hW8]; exact hp4_1 W7 _ _ _ _ ) (by
    intro d hd
    simp only [List.mem_cons, List.not_mem_nil, or_false] at hd
    rcases hd with rfl | rfl <;> first | exact dA.ok _ _ _) (by simp)
  have r1 : (dN 7 [] (W7.heap.size + 1) 3 [kF, (.mk 10 [45] [] [kN, kOne]), (.mk 10 [43] [] [kA, kN])]).ok W8 := dN.ok (L := [(dA 5 [102]), (dN 10 [45] (W5.heap.size) 2 [kN, kOne]), (dN 10 [43] (W7.heap.size) 2 [kA, kN])]) 7 [] (by rw [hW8]; exact hp4_2 W7 _ _ _ _ ) (by
    intro d hd
    simp only [List.mem_cons, List.not_mem_nil, or_false] at hd
    rcases hd with rfl | rfl | rfl <;> first | exact dA.ok _ _ _ | exact HL.out.2.grew gW8 | exact r0) (by simp)
  have r2 : (dN 8 [] (W7.heap.size + 1 + 1) 3 [(.mk 10 [61] [] [kN, kOne]), kA, (.mk 7 [] [] [kF, (.mk 10 [45] [] [kN, kOne]), (.mk 10 [43] [] [kA, kN])])]).ok W8 := dN.ok (L := [(dN 10 [61] (W6.heap.size) 2 [kN, kOne]), (dA 5 [97, 99, 99]), (dN 7 [] (W7.heap.size + 1) 3 [kF, (.mk 10 [45] [] [kN, kOne]), (.mk 10 [43] [] [kA, kN])])]) 8 [] (by rw [hW8]; exact hp4_3 W7 _ _ _ _ ) (by
    intro d hd
    simp only [List.mem_cons, List.not_mem_nil, or_false] at hd
    rcases hd with rfl | rfl | rfl <;> first | exact HZ.out.2.grew gW8 | exact dA.ok _ _ _ | exact r1) (by simp)
  have HP := hid (show (dN 8 [] (W7.heap.size + 1 + 1) 3 [(.mk 10 [61] [] [kN, kOne]), kA, (.mk 7 [] [] [kF, (.mk 10 [45] [] [kN, kOne]), (.mk 10 [43] [] [kA, kN])])]).at W8 (W7.heap.size + 1 + 1 + 1) from ⟨by rw [hW8]; exact hp4_4 W7 _ _ _ _ , r2⟩)
  replace HN := hid (HN.out.grew gW8)
  replace HA := hid (HA.out.grew gW8)
  replace HF := hid (HF.out.grew gW8)
  replace HO := hid (HO.out.grew gW8)
  replace HL := hid (HL.out.grew gW8)
  replace HZ := hid (HZ.out.grew gW8)
  replace HGW := hid (HGW.out.trans gW8 (fun _ _ f => f))
  rw [← hW8]
  clear hW8 gW8 z0 z1 z2 z3 a0 a1 a2 a3 f0 f1 f2 f3 l0 l1 l2 l3 n0 n1 n2 n3 r0 r1 r2
  obtain ⟨z0, z1, z2, z3⟩ : C4 W8 (W6.heap.size + 1) 10 [61] (some ⟨W6.heap.size, 0, none⟩) 2 := HZ.out.cells
  obtain ⟨o0, o1, o2, o3⟩ : C4 W8 (W4.heap.size) 1 [49] none 0 := HO.out.cells
  obtain ⟨f0, f1, f2, f3⟩ : C4 W8 (w4.heap.size + 1 + 1) 5 [102] none 0 := HF.out.cells
  obtain ⟨l0, l1, l2, l3⟩ : C4 W8 (W5.heap.size + 1) 10 [45] (some ⟨W5.heap.size, 0, none⟩) 2 := HL.out.cells
  obtain ⟨a0, a1, a2, a3⟩ : C4 W8 (w4.heap.size + 1) 5 [97, 99, 99] none 0 := HA.out.cells
  go_upto_region 9 with (fail)
  obtain ⟨W9, hW9⟩ : ∃ q : World, q = (((W8.alloc (.cells #[Kv 5, St [102], .slice none 0 0, .slice none 0 0, Kv 10, St [45], .slice none 0 0, .slice (some ⟨W5.heap.size, 0, none⟩) 2 2, Kv 5, St [97, 99, 99], .slice none 0 0, .slice none 0 0] 28)).alloc (.cells #[Kv 10, St [61], .slice none 0 0, .slice (some ⟨W6.heap.size, 0, none⟩) 2 2, Kv 1, St [49], .slice none 0 0, .slice none 0 0, Kv 7, St [], .slice none 0 0, .slice (some ⟨W8.heap.size, 0, none⟩) 3 3] 28)).alloc (.cells #[Kv 8, St [], .slice none 0 0, .slice (some ⟨W8.heap.size + 1, 0, none⟩) 3 3] 28)) := ⟨_, rfl⟩
  have gW9 : Grew W8 W9 := by rw [hW9]; exact (((Fr.refl _ _).alloc _).alloc _).alloc _
  have r0 : (dN 7 [] (W8.heap.size) 3 [kF, (.mk 10 [45] [] [kN, kOne]), kA]).ok W9 := dN.ok (L := [(dA 5 [102]), (dN 10 [45] (W5.heap.size) 2 [kN, kOne]), (dA 5 [97, 99, 99])]) 7 [] (by rw [hW9]; exact hp3_1 W8 _ _ _ ) (by
    intro d hd
    simp only [List.mem_cons, List.not_mem_nil, or_false] at hd
    rcases hd with rfl | rfl | rfl <;> first | exact dA.ok _ _ _ | exact HL.out.2.grew gW9) (by simp)
  have r1 : (dN 8 [] (W8.heap.size + 1) 3 [(.mk 10 [61] [] [kN, kOne]), kOne, (.mk 7 [] [] [kF, (.mk 10 [45] [] [kN, kOne]), kA])]).ok W9 := dN.ok (L := [(dN 10 [61] (W6.heap.size) 2 [kN, kOne]), (dA 1 [49]), (dN 7 [] (W8.heap.size) 3 [kF, (.mk 10 [45] [] [kN, kOne]), kA])]) 8 [] (by rw [hW9]; exact hp3_2 W8 _ _ _ ) (by
    intro d hd
    simp only [List.mem_cons, List.not_mem_nil, or_false] at hd
    rcases hd with rfl | rfl | rfl <;> first | exact HZ.out.2.grew gW9 | exact dA.ok _ _ _ | exact r0) (by simp)
  have HY := hid (show (dN 8 [] (W8.heap.size + 1) 3 [(.mk 10 [61] [] [kN, kOne]), kOne, (.mk 7 [] [] [kF, (.mk 10 [45] [] [kN, kOne]), kA])]).at W9 (W8.heap.size + 1 + 1) from ⟨by rw [hW9]; exact hp3_3 W8 _ _ _ , r1⟩)
  replace HN := hid (HN.out.grew gW9)
  replace HA := hid (HA.out.grew gW9)
  replace HF := hid (HF.out.grew gW9)
  replace HO := hid (HO.out.grew gW9)
  replace HL := hid (HL.out.grew gW9)
  replace HZ := hid (HZ.out.grew gW9)
  replace HP := hid (HP.out.grew gW9)
  replace HGW := hid (HGW.out.trans gW9 (fun _ _ f => f))
  rw [← hW9]
  clear hW9 gW9 z0 z1 z2 z3 o0 o1 o2 o3 f0 f1 f2 f3 l0 l1 l2 l3 a0 a1 a2 a3 r0 r1
  obtain ⟨f0, f1, f2, f3⟩ : C4 W9 (w4.heap.size + 1 + 1) 5 [102] none 0 := HF.out.cells
  obtain ⟨n0, n1, n2, n3⟩ : C4 W9 (w4.heap.size) 5 [110] none 0 := HN.out.cells
  obtain ⟨a0, a1, a2, a3⟩ : C4 W9 (w4.heap.size + 1) 5 [97, 99, 99] none 0 := HA.out.cells
  go_upto_region 10 with (fail)
  obtain ⟨W10, hW10⟩ : ∃ q : World, q = ((W9.alloc (.cells #[Kv 5, St [102], .slice none 0 0, .slice none 0 0, Kv 5, St [110], .slice none 0 0, .slice none 0 0, Kv 5, St [97, 99, 99], .slice none 0 0, .slice none 0 0] 28)).alloc (.cells #[Kv 7, St [], .slice none 0 0, .slice (some ⟨W9.heap.size, 0, none⟩) 3 3] 28)) := ⟨_, rfl⟩
  have gW10 : Grew W9 W10 := by rw [hW10]; exact ((Fr.refl _ _).alloc _).alloc _
  have r0 : (dN 7 [] (W9.heap.size) 3 [kF, kN, kA]).ok W10 := dN.ok (L := [(dA 5 [102]), (dA 5 [110]), (dA 5 [97, 99, 99])]) 7 [] (by rw [hW10]; exact hp2_1 W9 _ _ ) (by
    intro d hd
    simp only [List.mem_cons, List.not_mem_nil, or_false] at hd
    rcases hd with rfl | rfl | rfl <;> first | exact dA.ok _ _ _) (by simp)
  have HE := hid (show (dN 7 [] (W9.heap.size) 3 [kF, kN, kA]).at W10 (W9.heap.size + 1) from ⟨by rw [hW10]; exact hp2_2 W9 _ _ , r0⟩)
  replace HN := hid (HN.out.grew gW10)
  replace HA := hid (HA.out.grew gW10)
  replace HF := hid (HF.out.grew gW10)
  replace HO := hid (HO.out.grew gW10)
  replace HL := hid (HL.out.grew gW10)
  replace HZ := hid (HZ.out.grew gW10)
  replace HP := hid (HP.out.grew gW10)
  replace HY := hid (HY.out.grew gW10)
  replace HGW := hid (HGW.out.trans gW10 (fun _ _ f => f))
  rw [← hW10]
  clear hW10 gW10 f0 f1 f2 f3 n0 n1 n2 n3 a0 a1 a2 a3 r0
  obtain ⟨n0, n1, n2, n3⟩ : C4 W10 (w4.heap.size) 5 [110] none 0 := HN.out.cells
  obtain ⟨a0, a1, a2, a3⟩ : C4 W10 (w4.heap.size + 1) 5 [97, 99, 99] none 0 := HA.out.cells
  go_upto_region 11 with (fail)
  obtain ⟨W11, hW11⟩ : ∃ q : World, q = ((W10.alloc (.cells #[Kv 5, St [110], .slice none 0 0, .slice none 0 0, Kv 5, St [97, 99, 99], .slice none 0 0, .slice none 0 0] 28)).alloc (.cells #[Kv 10, St [99, 111, 110, 115], .slice none 0 0, .slice (some ⟨W10.heap.size, 0, none⟩) 2 2] 28)) := ⟨_, rfl⟩
  have gW11 : Grew W10 W11 := by rw [hW11]; exact ((Fr.refl _ _).alloc _).alloc _
  have r0 : (dN 10 [99, 111, 110, 115] (W10.heap.size) 2 [kN, kA]).ok W11 := dN.ok (L := [(dA 5 [110]), (dA 5 [97, 99, 99])]) 10 [99, 111, 110, 115] (by rw [hW11]; exact hp2_1 W10 _ _ ) (by
    intro d hd
    simp only [List.mem_cons, List.not_mem_nil, or_false] at hd
    rcases hd with rfl | rfl <;> first | exact dA.ok _ _ _) (by simp)
  have HC := hid (show (dN 10 [99, 111, 110, 115] (W10.heap.size) 2 [kN, kA]).at W11 (W10.heap.size + 1) from ⟨by rw [hW11]; exact hp2_2 W10 _ _ , r0⟩)
  replace HN := hid (HN.out.grew gW11)
  replace HA := hid (HA.out.grew gW11)
  replace HF := hid (HF.out.grew gW11)
  replace HO := hid (HO.out.grew gW11)
  replace HL := hid (HL.out.grew gW11)
  replace HZ := hid (HZ.out.grew gW11)
  replace HP := hid (HP.out.grew gW11)
  replace HY := hid (HY.out.grew gW11)
  replace HE := hid (HE.out.grew gW11)
  replace HGW := hid (HGW.out.trans gW11 (fun _ _ f => f))
  rw [← hW11]
  clear hW11 gW11 n0 n1 n2 n3 a0 a1 a2 a3 r0
  obtain ⟨p0, p1, p2, p3⟩ : C4 W11 (W7.heap.size + 1 + 1 + 1) 8 [] (some ⟨W7.heap.size + 1 + 1, 0, none⟩) 3 := HP.out.cells
  obtain ⟨y0, y1, y2, y3⟩ : C4 W11 (W8.heap.size + 1 + 1) 8 [] (some ⟨W8.heap.size + 1, 0, none⟩) 3 := HY.out.cells
  obtain ⟨e0, e1, e2, e3⟩ : C4 W11 (W9.heap.size + 1) 7 [] (some ⟨W9.heap.size, 0, none⟩) 3 := HE.out.cells
  obtain ⟨c0, c1, c2, c3⟩ : C4 W11 (W10.heap.size + 1) 10 [99, 111, 110, 115] (some ⟨W10.heap.size, 0, none⟩) 2 := HC.out.cells
  go_upto_region 12 with (fail)
  go_upto_region 13 with (fail)
  obtain ⟨W12, hW12⟩ : ∃ q : World, q = ((W11.alloc (.cells #[Kv 8, St [], .slice none 0 0, .slice (some ⟨W7.heap.size + 1 + 1, 0, none⟩) 3 3, Kv 8, St [], .slice none 0 0, .slice (some ⟨W8.heap.size + 1, 0, none⟩) 3 3, Kv 7, St [], .slice none 0 0, .slice (some ⟨W9.heap.size, 0, none⟩) 3 3, Kv 10, St [99, 111, 110, 115], .slice none 0 0, .slice (some ⟨W10.heap.size, 0, none⟩) 2 2] 28)).alloc (.cells #[.bool true, .bool true, .bool true, .bool false, .bool true, .bool true, .bool false, .bool false] 50)) := ⟨_, rfl⟩
  have gW12 : Grew W11 W12 := by rw [hW12]; exact ((Fr.refl _ _).alloc _).alloc _
  have HR := hid (show W12.heap[W11.heap.size]? = some (.cells #[Kv 8, St [], .slice none 0 0, .slice (some ⟨W7.heap.size + 1 + 1, 0, none⟩) 3 3, Kv 8, St [], .slice none 0 0, .slice (some ⟨W8.heap.size + 1, 0, none⟩) 3 3, Kv 7, St [], .slice none 0 0, .slice (some ⟨W9.heap.size, 0, none⟩) 3 3, Kv 10, St [99, 111, 110, 115], .slice none 0 0, .slice (some ⟨W10.heap.size, 0, none⟩) 2 2] 28 (0, 0)) by rw [hW12]; exact hp2_1 W11 _ _)
  have HQ := hid (show W12.heap[W11.heap.size + 1]? = some (.cells #[.bool true, .bool true, .bool true, .bool false, .bool true, .bool true, .bool false, .bool false] 50 (0, 0)) by rw [hW12]; exact hp2_2 W11 _ _)
  replace HF := hid (HF.out.grew gW12)
  replace HP := hid (HP.out.2.grew gW12)
  replace HY := hid (HY.out.2.grew gW12)
  replace HE := hid (HE.out.2.grew gW12)
  replace HC := hid (HC.out.2.grew gW12)
  replace HGW := hid (HGW.out.trans gW12 (fun _ _ f => f))
  rw [← hW12]
  clear hW12 gW12 p0 p1 p2 p3 y0 y1 y2 y3 e0 e1 e2 e3 c0 c1 c2 c3 HN HA HO HL HZ
  go_upto_region 14 with (go_at_call 26; (with_reducible refine (within8_any n 4 _ (by omega) (by omega)).mono ?_); rintro e w ⟨rfl, rfl⟩)
  obtain ⟨j, hj, hjk⟩ : ∃ j : Nat, j < 4 ∧ n % 4 = (j : Int) := ⟨(n % 4).toNat, by omega, by omega⟩
  rw [hjk]
  clear hjk
  have hj2 : (j : Int) < 4 := by omega
  obtain ⟨b, an, cn, aa, ca, pb, qb, hok, hc, hq, hne, hsz, hks⟩ : ∃ (b : X) (an : Option Addr) (cn : Nat) (aa : Option Addr) (ca : Nat) (pb qb : Bool), LmD.ok W12 ⟨[], b, an, cn, aa, ca⟩ ∧
      (W12.cell? ⟨W11.heap.size, j * 4, none⟩ = some (Kv b.kind) ∧ W12.cell? ⟨W11.heap.size, j * 4 + 1, none⟩ = some (St b.text) ∧ W12.cell? ⟨W11.heap.size, j * 4 + 2, none⟩ = some (.slice an b.names.length cn) ∧ W12.cell? ⟨W11.heap.size, j * 4 + 3, none⟩ = some (.slice aa b.parts.length ca)) ∧
      (W12.cell? ⟨W11.heap.size + 1, j * 2, none⟩ = some (.bool pb) ∧ W12.cell? ⟨W11.heap.size + 1, j * 2 + 1, none⟩ = some (.bool qb)) ∧ Ne b ∧ b.size ≤ 100 ∧ ∀ nl, Run (kTop b).lams nl → pas (kTop b).lams nl = nl → nl = kNl pb qb := by
    have h4 : j = 0 ∨ j = 1 ∨ j = 2 ∨ j = 3 := by omega
    have H1 := HR.out
    have H2 := HQ.out
    rcases h4 with rfl | rfl | rfl | rfl
    · exact ⟨kLoop, none, 0, some ⟨W7.heap.size + 1 + 1, 0, none⟩, 3, true, true, HP.out, ⟨cell_of_get H1 0, cell_of_get H1 1, cell_of_get H1 2, cell_of_get H1 3⟩, ⟨cell_of_get H2 0, cell_of_get H2 1⟩, ne_kLoop, by simp [X.size, sizes], fun nl h1 h2 => by rw [kl_loop] at h1 h2; exact k_loop_is h1 h2⟩
    · exact ⟨kLazy, none, 0, some ⟨W8.heap.size + 1, 0, none⟩, 3, true, false, HY.out, ⟨cell_of_get H1 4, cell_of_get H1 5, cell_of_get H1 6, cell_of_get H1 7⟩, ⟨cell_of_get H2 2, cell_of_get H2 3⟩, ne_kLazy, by simp [X.size, sizes], fun nl h1 h2 => by rw [kl_lazy] at h1 h2; exact k_lazy_is h1 h2⟩
    · exact ⟨kEver, none, 0, some ⟨W9.heap.size, 0, none⟩, 3, true, true, HE.out, ⟨cell_of_get H1 8, cell_of_get H1 9, cell_of_get H1 10, cell_of_get H1 11⟩, ⟨cell_of_get H2 4, cell_of_get H2 5⟩, ne_kEver, by simp [X.size, sizes], fun nl h1 h2 => by rw [kl_ever] at h1 h2; exact k_ever_is h1 h2⟩
    · exact ⟨kPair, none, 0, some ⟨W10.heap.size, 0, none⟩, 2, false, false, HC.out, ⟨cell_of_get H1 12, cell_of_get H1 13, cell_of_get H1 14, cell_of_get H1 15⟩, ⟨cell_of_get H2 6, cell_of_get H2 7⟩, ne_kPair, by simp [X.size, sizes], fun nl h1 h2 => by rw [kl_pair] at h1 h2; exact k_pair_is h1 h2⟩
  have HOK := hid hok
  have HCB := hid hc
  have HQB := hid hq
  have HNE := hid hne
  have HKS := hid hks
  have HSZ := hid hsz
  clear hok hc hq hne hks hsz HR HQ HP HY HE HC
  obtain ⟨f0, f1, f2, f3⟩ : C4 W12 (w4.heap.size + 1 + 1) 5 [102] none 0 := HF.out.cells
  have HCF := hid (And.intro f0 (And.intro f1 (And.intro f2 f3)))
  clear f0 f1 f2 f3 HF
  refine Rg.wp_region_facts 11 Grew [(73, FTx), (74, Rg.Ex (.slice (some ⟨W11.heap.size, 0, none⟩) 4 4)), (75, Rg.Ex (.int .i64 (j : Int))), (76, Rg.Ex (.pointer (some ⟨W11.heap.size, j * 4, none⟩))), (77, Rg.Ex (.agg #[Kv b.kind, St b.text, .slice an b.names.length cn, .slice aa b.parts.length ca])), (78, FRw b), (79, FRt (kLam b)), (80, Rg.Ex (.agg #[Kv 5, St [102], .slice none 0 0, .slice none 0 0])), (81, FRt (kTop b)), (82, FN8 42 W12.heap.size (kTop b)), (16, FN8 42 W12.heap.size (kTop b))] (by kernel_rfl) (by kernel_rfl) (by rfl) (by rfl)
    (fun a => Fr.refl _ a) (fun a b c h k => h.trans k (fun _ _ f => f)) (Fr.refl _ _).drew
    (Rg.Stays.all ⟨FTx.stays, Rg.Ex.stays _, Rg.Ex.stays _, Rg.Ex.stays _, Rg.Ex.stays _, FRw.stays _, FRt.stays _, Rg.Ex.stays _, FRt.stays _, FN8.stays _ _ _, FN8.stays _ _ _, trivial⟩) ?_ ?_
  · go_light
    refine Rg.OpGoals.cons (Rg.OpGoal.plain rfl ?_) (Rg.OpGoals.cons (Rg.OpGoal.plain rfl ?_) (Rg.OpGoals.cons (Rg.OpGoal.plain rfl ?_) (Rg.OpGoals.cons (Rg.OpGoal.plain rfl ?_) (Rg.OpGoals.cons (Rg.OpGoal.plain rfl ?_) (Rg.OpGoals.cons (Rg.OpGoal.plain rfl ?_) (Rg.OpGoals.cons (Rg.OpGoal.plain rfl ?_) (Rg.OpGoals.cons (Rg.OpGoal.plain rfl ?_) (Rg.OpGoals.cons (Rg.OpGoal.plain rfl ?_) (Rg.OpGoals.cons (Rg.OpGoal.plain rfl ?_) (Rg.OpGoals.cons (Rg.OpGoal.plain rfl ?_) Rg.OpGoals.none))))))))))
    all_goals (intro a' w' hS hR; simp [Rg.Rd, Op.operands, Call.operands, Rg.Fk, Rg.Ex] at hR)
    all_goals (have c0' := hS.cell HCB.out.1 (fun f => f))
    all_goals (have c1' := hS.cell HCB.out.2.1 (fun f => f))
    all_goals (have c2' := hS.cell HCB.out.2.2.1 (fun f => f))
    all_goals (have c3' := hS.cell HCB.out.2.2.2 (fun f => f))
    all_goals (have f0' := hS.cell HCF.out.1 (fun f => f))
    all_goals (have f1' := hS.cell HCF.out.2.1 (fun f => f))
    all_goals (have f2' := hS.cell HCF.out.2.2.1 (fun f => f))
    all_goals (have f3' := hS.cell HCF.out.2.2.2 (fun f => f))
    all_goals try (simp [Rg.Yields, execOp, Act.eval, hR, c0', c1', c2', c3', f0', f1', f2', f3', hj2, go_sem, Rg.Fk, Rg.Ex, Fr.refl]; done)
    · simp [Rg.Yields, execOp, Act.eval, go_sem, Rg.Fk, Rg.Ex]
      exact ⟨⟨_, rfl, heap_alloc_new _ _⟩, (Fr.refl _ _).alloc _⟩
    · simp [Rg.Yields, execOp, Act.eval, hR, go_sem, Rg.Fk, Rg.Ex]
      exact ⟨⟨_, rfl, row_flat (L := [⟨[], b, an, cn, aa, ca⟩]) (heap_alloc_new _ _) (fun d hd => by
        simp only [List.mem_cons, List.not_mem_nil, or_false] at hd
        rw [hd]
        exact (HOK.out.grew hS).grew ((Fr.refl _ _).alloc _)) (fun f => f) (by simp)⟩, (Fr.refl _ _).alloc _⟩
    · obtain ⟨⟨g1, e1, h1⟩, ⟨g2, e2, h2⟩⟩ := hR
      simp [Rg.Yields, execOp, Act.eval, e1, e2, go_sem, Rg.Fk, Rg.Ex, Fr.refl]
      exact ⟨_, _, rfl, FTx.nm h1, h2⟩
    · obtain ⟨hR1, hR2⟩ := hR
      simp [Rg.Yields, Act.eval, hR2, go_sem, Rg.Fk, Rg.Ex]
      refine (bind_any hR1 (rd_atom _ _ 5 [102]) [102]).mono ?_
      rintro e w2 ⟨v, rfl, h1, h2⟩
      exact ⟨v, rfl, h1, h2⟩
    · simp [Rg.Yields, Act.eval, go_sem, Rg.Fk, Rg.Ex]
      refine (needs_any hR (ne_kTop HNE.out) (by have := HSZ.out; simp [X.size, sizes]; omega)).mono ?_
      intro e w2 hp
      obtain ⟨v, rfl, h1, h2⟩ := hp.fn8 hS.size (by have := HSZ.out; simp [X.size, sizes]; omega)
      exact ⟨v, rfl, h1, h2⟩
  · intro w9 hS
    rintro v73 h73 _ rfl _ rfl _ rfl _ rfl v78 h78 v79 h79 _ rfl v81 h81 v82 h82 v16 h16
    refine Rg.Then.nil ?_
    obtain ⟨aN, mN, cN, L, nl, rfl, hns, hll, hrun, hpas⟩ := h16
    have hnl := HKS.out nl hrun hpas
    subst hnl
    obtain ⟨gN, oN, cap, e, hN1, hN2, -, hat⟩ := hns.nd.at (by simp)
    simp only [Value.slice.injEq] at e
    obtain ⟨rfl, rfl, rfl⟩ := e
    obtain ⟨hs, aX, cX, hx1, hx2⟩ := hat 0 _ rfl
    obtain ⟨_, _, e, hX1, hX2, h4⟩ := hx2
    simp only [Value.slice.injEq] at e
    obtain ⟨rfl, -, rfl⟩ := e
    obtain ⟨gX, oX, rfl, -, hxc⟩ := h4.resolve_left (by simp)
    have HN0 := hid (show w9.cell? ⟨gN, oN, none⟩ = some (St [102]) from hs)
    have HN1 := hid (show w9.cell? ⟨gN, oN + 1, none⟩ = some (.slice (some ⟨gX, oX, none⟩) 2 cX) from hx1)
    have HX0 := hid (show w9.cell? ⟨gX, oX, none⟩ = some (.bool pb) from hxc 0 _ rfl)
    have HX1 := hid (show w9.cell? ⟨gX, oX + 1, none⟩ = some (.bool qb) from hxc 1 _ rfl)
    have HB0 := hid (hS.cell HQB.out.1 (fun f => f))
    have HB1 := hid (hS.cell HQB.out.2 (fun f => f))
    have HGE := hid (HGW.out.trans hS (fun _ _ f => f))
    clear hS hs hx1 hxc h4 hat hns hrun hpas h73 h78 h79 h81 h82 hll hN1 hN2 hX1 hX2
    go_upto_region 15 with (fail)
    refine Rg.wp_region_facts 47 Grew [(83, Rg.Ex (.slice (some ⟨gN, oN, none⟩) 1 cN)), (84, Rg.Ex (.int .i64 1)), (85, Rg.Ex (.bool true)), (86, Rg.Ex (.bool true)), (87, Rg.Ex (.slice (some ⟨gN, oN, none⟩) 1 cN)), (88, Rg.Ex (.pointer (some ⟨gN, oN, none⟩))), (89, Rg.Ex (.pointer (some ⟨gN, oN, none⟩))), (90, Rg.Ex (St [102])), (91, Rg.Ex (.bool true)), (92, Rg.Ex (.bool true)), (93, Rg.Ex (.bool true)), (94, Rg.Ex (.slice (some ⟨gN, oN, none⟩) 1 cN)), (95, Rg.Ex (.pointer (some ⟨gN, oN, none⟩))), (96, Rg.Ex (.pointer (some ⟨gN, oN + 1, none⟩))), (97, Rg.Ex (.slice (some ⟨gX, oX, none⟩) 2 cX)), (98, Rg.Ex (.int .i64 2)), (99, Rg.Ex (.bool true)), (100, Rg.Ex (.bool true)), (101, Rg.Ex (.bool true)), (102, Rg.Ex (.slice (some ⟨gN, oN, none⟩) 1 cN)), (103, Rg.Ex (.pointer (some ⟨gN, oN, none⟩))), (104, Rg.Ex (.pointer (some ⟨gN, oN + 1, none⟩))), (105, Rg.Ex (.slice (some ⟨gX, oX, none⟩) 2 cX)), (106, Rg.Ex (.pointer (some ⟨gX, oX, none⟩))), (107, Rg.Ex (.bool pb)), (108, Rg.Ex (.slice (some ⟨W11.heap.size + 1, 0, none⟩) 4 4)), (109, Rg.Ex (.int .i64 (j : Int))), (110, Rg.Ex (.pointer (some ⟨W11.heap.size + 1, j * 2, none⟩))), (111, Rg.Ex (.pointer (some ⟨W11.heap.size + 1, j * 2, none⟩))), (112, Rg.Ex (.bool pb)), (113, Rg.Ex (.bool true)), (114, Rg.Ex (.bool true)), (115, Rg.Ex (.bool true)), (116, Rg.Ex (.slice (some ⟨gN, oN, none⟩) 1 cN)), (117, Rg.Ex (.pointer (some ⟨gN, oN, none⟩))), (118, Rg.Ex (.pointer (some ⟨gN, oN + 1, none⟩))), (119, Rg.Ex (.slice (some ⟨gX, oX, none⟩) 2 cX)), (120, Rg.Ex (.pointer (some ⟨gX, oX + 1, none⟩))), (121, Rg.Ex (.bool qb)), (122, Rg.Ex (.slice (some ⟨W11.heap.size + 1, 0, none⟩) 4 4)), (123, Rg.Ex (.int .i64 (j : Int))), (124, Rg.Ex (.pointer (some ⟨W11.heap.size + 1, j * 2, none⟩))), (125, Rg.Ex (.pointer (some ⟨W11.heap.size + 1, j * 2 + 1, none⟩))), (126, Rg.Ex (.bool qb)), (127, Rg.Ex (.bool true)), (128, Rg.Ex (.bool true)), (2, Rg.Ex (.bool true))] (by kernel_rfl) (by kernel_rfl) (by rfl) (by rfl)
      (fun a => Fr.refl _ a) (fun a b c h k => h.trans k (fun _ _ f => f)) (Fr.refl _ _).drew
      (Rg.Stays.all ⟨Rg.Ex.stays _, Rg.Ex.stays _, Rg.Ex.stays _, Rg.Ex.stays _, Rg.Ex.stays _, Rg.Ex.stays _, Rg.Ex.stays _, Rg.Ex.stays _, Rg.Ex.stays _, Rg.Ex.stays _, Rg.Ex.stays _, Rg.Ex.stays _, Rg.Ex.stays _, Rg.Ex.stays _, Rg.Ex.stays _, Rg.Ex.stays _, Rg.Ex.stays _, Rg.Ex.stays _, Rg.Ex.stays _, Rg.Ex.stays _, Rg.Ex.stays _, Rg.Ex.stays _, Rg.Ex.stays _, Rg.Ex.stays _, Rg.Ex.stays _, Rg.Ex.stays _, Rg.Ex.stays _, Rg.Ex.stays _, Rg.Ex.stays _, Rg.Ex.stays _, Rg.Ex.stays _, Rg.Ex.stays _, Rg.Ex.stays _, Rg.Ex.stays _, Rg.Ex.stays _, Rg.Ex.stays _, Rg.Ex.stays _, Rg.Ex.stays _, Rg.Ex.stays _, Rg.Ex.stays _, Rg.Ex.stays _, Rg.Ex.stays _, Rg.Ex.stays _, Rg.Ex.stays _, Rg.Ex.stays _, Rg.Ex.stays _, Rg.Ex.stays _, trivial⟩) ?_ ?_
    · go_light
      refine Rg.OpGoals.cons (Rg.OpGoal.plain rfl ?_) (Rg.OpGoals.cons (Rg.OpGoal.plain rfl ?_) (Rg.OpGoals.cons (Rg.OpGoal.plain rfl ?_) (Rg.OpGoals.cons (Rg.OpGoal.plain rfl ?_) (Rg.OpGoals.cons (Rg.OpGoal.guarded (d := 86) (want := true) rfl (fun _ _ h => h) ?_) (Rg.OpGoals.cons (Rg.OpGoal.guarded (d := 86) (want := true) rfl (fun _ _ h => h) ?_) (Rg.OpGoals.cons (Rg.OpGoal.guarded (d := 86) (want := true) rfl (fun _ _ h => h) ?_) (Rg.OpGoals.cons (Rg.OpGoal.guarded (d := 86) (want := true) rfl (fun _ _ h => h) ?_) (Rg.OpGoals.cons (Rg.OpGoal.guarded (d := 86) (want := true) rfl (fun _ _ h => h) ?_) (Rg.OpGoals.cons (Rg.OpGoal.plain rfl ?_) (Rg.OpGoals.cons (Rg.OpGoal.plain rfl ?_) (Rg.OpGoals.cons (Rg.OpGoal.guarded (d := 93) (want := true) rfl (fun _ _ h => h) ?_) (Rg.OpGoals.cons (Rg.OpGoal.guarded (d := 93) (want := true) rfl (fun _ _ h => h) ?_) (Rg.OpGoals.cons (Rg.OpGoal.guarded (d := 93) (want := true) rfl (fun _ _ h => h) ?_) (Rg.OpGoals.cons (Rg.OpGoal.guarded (d := 93) (want := true) rfl (fun _ _ h => h) ?_) (Rg.OpGoals.cons (Rg.OpGoal.guarded (d := 93) (want := true) rfl (fun _ _ h => h) ?_) (Rg.OpGoals.cons (Rg.OpGoal.guarded (d := 93) (want := true) rfl (fun _ _ h => h) ?_) (Rg.OpGoals.cons (Rg.OpGoal.plain rfl ?_) (Rg.OpGoals.cons (Rg.OpGoal.plain rfl ?_) (Rg.OpGoals.cons (Rg.OpGoal.guarded (d := 101) (want := true) rfl (fun _ _ h => h) ?_) (Rg.OpGoals.cons (Rg.OpGoal.guarded (d := 101) (want := true) rfl (fun _ _ h => h) ?_) (Rg.OpGoals.cons (Rg.OpGoal.guarded (d := 101) (want := true) rfl (fun _ _ h => h) ?_) (Rg.OpGoals.cons (Rg.OpGoal.guarded (d := 101) (want := true) rfl (fun _ _ h => h) ?_) (Rg.OpGoals.cons (Rg.OpGoal.guarded (d := 101) (want := true) rfl (fun _ _ h => h) ?_) (Rg.OpGoals.cons (Rg.OpGoal.guarded (d := 101) (want := true) rfl (fun _ _ h => h) ?_) (Rg.OpGoals.cons (Rg.OpGoal.guarded (d := 101) (want := true) rfl (fun _ _ h => h) ?_) (Rg.OpGoals.cons (Rg.OpGoal.guarded (d := 101) (want := true) rfl (fun _ _ h => h) ?_) (Rg.OpGoals.cons (Rg.OpGoal.guarded (d := 101) (want := true) rfl (fun _ _ h => h) ?_) (Rg.OpGoals.cons (Rg.OpGoal.guarded (d := 101) (want := true) rfl (fun _ _ h => h) ?_) (Rg.OpGoals.cons (Rg.OpGoal.guarded (d := 101) (want := true) rfl (fun _ _ h => h) ?_) (Rg.OpGoals.cons (Rg.OpGoal.guarded (d := 101) (want := true) rfl (fun _ _ h => h) ?_) (Rg.OpGoals.cons (Rg.OpGoal.plain rfl ?_) (Rg.OpGoals.cons (Rg.OpGoal.plain rfl ?_) (Rg.OpGoals.cons (Rg.OpGoal.guarded (d := 115) (want := true) rfl (fun _ _ h => h) ?_) (Rg.OpGoals.cons (Rg.OpGoal.guarded (d := 115) (want := true) rfl (fun _ _ h => h) ?_) (Rg.OpGoals.cons (Rg.OpGoal.guarded (d := 115) (want := true) rfl (fun _ _ h => h) ?_) (Rg.OpGoals.cons (Rg.OpGoal.guarded (d := 115) (want := true) rfl (fun _ _ h => h) ?_) (Rg.OpGoals.cons (Rg.OpGoal.guarded (d := 115) (want := true) rfl (fun _ _ h => h) ?_) (Rg.OpGoals.cons (Rg.OpGoal.guarded (d := 115) (want := true) rfl (fun _ _ h => h) ?_) (Rg.OpGoals.cons (Rg.OpGoal.guarded (d := 115) (want := true) rfl (fun _ _ h => h) ?_) (Rg.OpGoals.cons (Rg.OpGoal.guarded (d := 115) (want := true) rfl (fun _ _ h => h) ?_) (Rg.OpGoals.cons (Rg.OpGoal.guarded (d := 115) (want := true) rfl (fun _ _ h => h) ?_) (Rg.OpGoals.cons (Rg.OpGoal.guarded (d := 115) (want := true) rfl (fun _ _ h => h) ?_) (Rg.OpGoals.cons (Rg.OpGoal.guarded (d := 115) (want := true) rfl (fun _ _ h => h) ?_) (Rg.OpGoals.cons (Rg.OpGoal.guarded (d := 115) (want := true) rfl (fun _ _ h => h) ?_) (Rg.OpGoals.cons (Rg.OpGoal.plain rfl ?_) (Rg.OpGoals.cons (Rg.OpGoal.plain rfl ?_) Rg.OpGoals.none))))))))))))))))))))))))))))))))))))))))))))))
      all_goals (intro a' w' hS hR; simp [Rg.Rd, Op.operands, Call.operands, Rg.Fk, Rg.Ex] at hR)
      all_goals (have n0' := hS.cell HN0.out (fun f => f))
      all_goals (have n1' := hS.cell HN1.out (fun f => f))
      all_goals (have x0' := hS.cell HX0.out (fun f => f))
      all_goals (have x1' := hS.cell HX1.out (fun f => f))
      all_goals (have q0' := hS.cell HB0.out (fun f => f))
      all_goals (have q1' := hS.cell HB1.out (fun f => f))
      all_goals try (simp [Rg.Yields, execOp, Act.eval, hR, n0', n1', x0', x1', q0', q1', hj2, go_sem, Rg.Fk, Rg.Ex, Fr.refl]; done)
    · intro w10 hS
      rintro _ rfl _ rfl _ rfl _ rfl _ rfl _ rfl _ rfl _ rfl _ rfl _ rfl _ rfl _ rfl _ rfl _ rfl _ rfl _ rfl _ rfl _ rfl _ rfl _ rfl _ rfl _ rfl _ rfl _ rfl _ rfl _ rfl _ rfl _ rfl _ rfl _ rfl _ rfl _ rfl _ rfl _ rfl _ rfl _ rfl _ rfl _ rfl _ rfl _ rfl _ rfl _ rfl _ rfl _ rfl _ rfl _ rfl _ rfl
      refine Rg.Then.nil ?_
      have HGL := hid (HGE.out.trans hS (fun _ _ f => f))
      clear hS
      go_wp2
      go_ret
      exact ⟨rfl, HGL.out⟩
end Go.Proofs.Ytddcfnjmppijjaa
