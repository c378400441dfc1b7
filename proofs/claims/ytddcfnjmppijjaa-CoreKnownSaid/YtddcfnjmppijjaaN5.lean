import Derived.Test.YtddcfnjmppijjaaN4
import Derived.Test.YtddcfnjmppijjaaR3
/-! core.shaped: may a term be, but for its parts. -/
namespace Go.Proofs.Ytddcfnjmppijjaa
open Go.RowKit

theorem numOk_nil : numOk [] = false := by decide
theorem ar_nil : ar [] = 0 := by decide
theorem is_empty (t : Str) : t.isEmpty = decide (t = []) := by cases t <;> rfl
theorem alone_t (t : Str) (m n : Nat) (p : Int) : aloneB t m n true p = decide (t ≠ [] ∧ m = 0 ∧ (n : Int) = p) := by
  rw [Bool.eq_iff_iff]; cases t <;> simp [aloneB]
theorem alone_f (t : Str) (m n : Nat) (p : Int) : aloneB t m n false p = decide (t = [] ∧ m = 0 ∧ (n : Int) = p) := by
  rw [Bool.eq_iff_iff]; cases t <;> simp [aloneB]
theorem s1 (t : Str) (ns : List Str) (n : Nat) : shp 1 t ns n = (aloneB t ns.length n true 0 && numOk t) := by
  rw [alone_t]
  by_cases h : t = []
  · subst h; simp [shp, numOk_nil]
  · rw [Bool.eq_iff_iff]; simp [shp, h]; try grind
theorem s2 (t : Str) (ns : List Str) (n : Nat) : shp 2 t ns n = (aloneB t ns.length n true 0 && (decide (t = [35, 116]) || decide (t = [35, 102]))) := by
  rw [alone_t]
  by_cases h : t = []
  · subst h; simp [shp]
  · rw [Bool.eq_iff_iff]; simp [shp, h]; try grind
theorem s3 (t : Str) (ns : List Str) (n : Nat) : shp 3 t ns n = aloneB t ns.length n false 0 := by
  rw [alone_f]
  rw [Bool.eq_iff_iff]; simp [shp, is_empty]; try grind
theorem s4 (t : Str) (ns : List Str) (n : Nat) : shp 4 t ns n = aloneB t ns.length n true 0 := by
  rw [alone_t]
  rw [Bool.eq_iff_iff]; simp [shp, is_empty]; try grind
theorem s5 (t : Str) (ns : List Str) (n : Nat) : shp 5 t ns n = aloneB t ns.length n true 0 := by
  rw [alone_t]
  rw [Bool.eq_iff_iff]; simp [shp, is_empty]; try grind
theorem s6 (t : Str) (ns : List Str) (n : Nat) : shp 6 t ns n = (t.isEmpty && (namesB ns && ((n : Int) == 1))) := by
  rw [namesB_once]
  rw [Bool.eq_iff_iff]; simp [shp, is_empty]; try grind
theorem s7 (t : Str) (ns : List Str) (n : Nat) : shp 7 t ns n = aloneB t ns.length n false (max (n : Int) 2) := by
  rw [alone_f]
  rw [Bool.eq_iff_iff]; simp [shp, is_empty]; try grind
theorem s8 (t : Str) (ns : List Str) (n : Nat) : shp 8 t ns n = aloneB t ns.length n false 3 := by
  rw [alone_f]
  rw [Bool.eq_iff_iff]; simp [shp, is_empty]; try grind
theorem s9 (t : Str) (ns : List Str) (n : Nat) : shp 9 t ns n = (t.isEmpty && (namesB ns && ((n : Int) == (ns.length : Int) + 1))) := by
  rw [namesB_once]
  rw [Bool.eq_iff_iff]; simp [shp, is_empty]; try grind
theorem s10 (t : Str) (ns : List Str) (n : Nat) : shp 10 t ns n = (decide (0 < ar t) && aloneB t ns.length n true (ar t)) := by
  rw [alone_t]
  by_cases h : t = []
  · subst h; simp [shp, ar_nil]
  · rw [Bool.eq_iff_iff]; simp [shp, h]; try grind

set_option maxHeartbeats 8000000 in
set_option maxRecDepth 100000 in
theorem shaped_any {w : World} (hG : Gl w) {D : Nat → Prop} {an : Option Addr} {m cn : Nat} {ns : List Str} (h : Nm w D (.slice an m cn) ns) (k : Int) (t : Str) (aa : Option Addr) (n ca : Nat)
    (ht : t.length ≤ 1000000) (hm : m ≤ 1000000) (_hn : n ≤ 1000000) :
    Calls Try.prog 58 #[.agg #[Kv k, St t, .slice an m cn, .slice aa n ca]] w fun e w' => e = .returned (.bool (shp k t ns n)) ∧ Grew w w' := by
  obtain ⟨an', cn', e, -⟩ := h.shape
  simp only [Value.slice.injEq] at e
  obtain ⟨rfl, rfl, rfl⟩ := e
  have HG := hid (fun (o : Obj) => (Fr.refl (fun _ => False) w).alloc o)
  have HRN := hid (fun W => bignum_any W t ht)
  have HRA := hid (fun (W : World) (g : Grew w W) => arity_any (hG.grew g) t ht)
  have HNM := hid (fun (W : World) (g : Grew w W) => names_any (h.kept g (fun _ f => f.elim)) hm)
  have HAL := hid (fun (W : World) b p => alone_any W k t an ns.length cn aa n ca b p)
  clear h hG

  by_cases k1 : k = 1
  · subst k1
    cases hq1 : aloneB t ns.length n true 0
    · have hv := hid (show shp 1 t ns n = false from by rw [s1, hq1]; rfl)
      have hal : ∀ W, Calls Try.prog 81 #[.agg #[.int .i64 1, St t, .slice an ns.length cn, .slice aa n ca], .bool true, .int .i64 (0)] W fun e w' => e = .returned (.bool (false)) ∧ Grew W w' := fun W => by have := HAL.out W true (0); rwa [hq1] at this
      go_enter Try.func58, Try.ntmps58
      go_wp2_with (go_at_call 81; (with_reducible refine (hal _).mono ?_); rintro e w1 ⟨rfl, hg1⟩)
      go_ret
      exact ⟨(congrArg (fun b => Ending.returned (.bool b)) hv.out).symm, (HG.out _).trans hg1 (fun _ _ f => f)⟩
    · have hv := hid (show shp 1 t ns n = numOk t from by rw [s1, hq1]; rfl)
      have hal : ∀ W, Calls Try.prog 81 #[.agg #[.int .i64 1, St t, .slice an ns.length cn, .slice aa n ca], .bool true, .int .i64 (0)] W fun e w' => e = .returned (.bool (true)) ∧ Grew W w' := fun W => by have := HAL.out W true (0); rwa [hq1] at this
      have hrn := HRN.out
      have HC : Hid ((w.alloc (.cells #[.int .i64 1, St t, .slice an ns.length cn, .slice aa n ca] 28)).cell? ⟨w.heap.size, 1, none⟩ = some (St t)) := hid (cell_of_get (heap_alloc_new w _) 1)
      go_enter Try.func58, Try.ntmps58
      go_wp2_with (first | (go_at_call 81; (with_reducible refine (hal _).mono ?_); rintro e w1 ⟨rfl, hg1⟩; have hcc := hg1.cell HC.out (fun f => f)) | (go_at_call 82; (with_reducible refine (hrn _).mono ?_); rintro e w2 ⟨rfl, hg2⟩))
      go_ret
      exact ⟨(congrArg (fun b => Ending.returned (.bool b)) hv.out).symm, ((HG.out _).trans hg1 (fun _ _ f => f)).trans hg2 (fun _ _ f => f)⟩
  by_cases k2 : k = 2
  · subst k2
    cases hq1 : aloneB t ns.length n true 0
    · have hv := hid (show shp 2 t ns n = false from by rw [s2, hq1]; rfl)
      have hal : ∀ W, Calls Try.prog 81 #[.agg #[.int .i64 2, St t, .slice an ns.length cn, .slice aa n ca], .bool true, .int .i64 (0)] W fun e w' => e = .returned (.bool (false)) ∧ Grew W w' := fun W => by have := HAL.out W true (0); rwa [hq1] at this
      go_enter Try.func58, Try.ntmps58
      go_wp2_with (go_at_call 81; (with_reducible refine (hal _).mono ?_); rintro e w1 ⟨rfl, hg1⟩)
      go_ret
      exact ⟨(congrArg (fun b => Ending.returned (.bool b)) hv.out).symm, (HG.out _).trans hg1 (fun _ _ f => f)⟩
    · by_cases h1 : t = [35, 116]
      · subst h1
        have hv := hid (show shp 2 [35, 116] ns n = true from by rw [s2, hq1]; rfl)
        have hal : ∀ W, Calls Try.prog 81 #[.agg #[.int .i64 2, St ([35, 116]), .slice an ns.length cn, .slice aa n ca], .bool true, .int .i64 (0)] W fun e w' => e = .returned (.bool (true)) ∧ Grew W w' := fun W => by have := HAL.out W true (0); rwa [hq1] at this
        have HC : Hid ((w.alloc (.cells #[.int .i64 2, St ([35, 116] : Str), .slice an ns.length cn, .slice aa n ca] 28)).cell? ⟨w.heap.size, 1, none⟩ = some (St [35, 116])) := hid (cell_of_get (heap_alloc_new w _) 1)
        go_enter Try.func58, Try.ntmps58
        go_wp2_with (go_at_call 81; (with_reducible refine (hal _).mono ?_); rintro e w1 ⟨rfl, hg1⟩; have hcc := hg1.cell HC.out (fun f => f))
        go_ret
        exact ⟨(congrArg (fun b => Ending.returned (.bool b)) hv.out).symm, (HG.out _).trans hg1 (fun _ _ f => f)⟩
      · by_cases h2 : t = [35, 102]
        · subst h2
          have hv := hid (show shp 2 [35, 102] ns n = true from by rw [s2, hq1]; rfl)
          have hal : ∀ W, Calls Try.prog 81 #[.agg #[.int .i64 2, St ([35, 102]), .slice an ns.length cn, .slice aa n ca], .bool true, .int .i64 (0)] W fun e w' => e = .returned (.bool (true)) ∧ Grew W w' := fun W => by have := HAL.out W true (0); rwa [hq1] at this
          have HC : Hid ((w.alloc (.cells #[.int .i64 2, St ([35, 102] : Str), .slice an ns.length cn, .slice aa n ca] 28)).cell? ⟨w.heap.size, 1, none⟩ = some (St [35, 102])) := hid (cell_of_get (heap_alloc_new w _) 1)
          go_enter Try.func58, Try.ntmps58
          go_wp2_with (go_at_call 81; (with_reducible refine (hal _).mono ?_); rintro e w1 ⟨rfl, hg1⟩; have hcc := hg1.cell HC.out (fun f => f))
          go_ret
          exact ⟨(congrArg (fun b => Ending.returned (.bool b)) hv.out).symm, (HG.out _).trans hg1 (fun _ _ f => f)⟩
        · have b1 : (t == [35, 116]) = false := by simpa using h1
          have b2 : (t == [35, 102]) = false := by simpa using h2
          have hv := hid (show shp 2 t ns n = false from by rw [s2, hq1, decide_eq_false h1, decide_eq_false h2]; rfl)
          have hal : ∀ W, Calls Try.prog 81 #[.agg #[.int .i64 2, St t, .slice an ns.length cn, .slice aa n ca], .bool true, .int .i64 (0)] W fun e w' => e = .returned (.bool (true)) ∧ Grew W w' := fun W => by have := HAL.out W true (0); rwa [hq1] at this
          have HC : Hid ((w.alloc (.cells #[.int .i64 2, St t, .slice an ns.length cn, .slice aa n ca] 28)).cell? ⟨w.heap.size, 1, none⟩ = some (St t)) := hid (cell_of_get (heap_alloc_new w _) 1)
          go_enter Try.func58, Try.ntmps58
          go_wp2_with (go_at_call 81; (with_reducible refine (hal _).mono ?_); rintro e w1 ⟨rfl, hg1⟩; have hcc := hg1.cell HC.out (fun f => f))
          go_ret
          exact ⟨(congrArg (fun b => Ending.returned (.bool b)) hv.out).symm, (HG.out _).trans hg1 (fun _ _ f => f)⟩
  by_cases k3 : k = 3
  · subst k3
    have hv := hid (s3 t ns n)
    have hal : ∀ W, Calls Try.prog 81 #[.agg #[.int .i64 3, St t, .slice an ns.length cn, .slice aa n ca], .bool false, .int .i64 (0)] W fun e w' => e = .returned (.bool (aloneB t ns.length n false (0))) ∧ Grew W w' := fun W => by have := HAL.out W false (0); exact this
    go_enter Try.func58, Try.ntmps58
    go_wp2_with (go_at_call 81; (with_reducible refine (hal _).mono ?_); rintro e w1 ⟨rfl, hg1⟩)
    go_ret
    exact ⟨(congrArg (fun b => Ending.returned (.bool b)) hv.out).symm, (HG.out _).trans hg1 (fun _ _ f => f)⟩
  by_cases k4 : k = 4
  · subst k4
    have hv := hid (s4 t ns n)
    have hal : ∀ W, Calls Try.prog 81 #[.agg #[.int .i64 4, St t, .slice an ns.length cn, .slice aa n ca], .bool true, .int .i64 (0)] W fun e w' => e = .returned (.bool (aloneB t ns.length n true (0))) ∧ Grew W w' := fun W => by have := HAL.out W true (0); exact this
    go_enter Try.func58, Try.ntmps58
    go_wp2_with (go_at_call 81; (with_reducible refine (hal _).mono ?_); rintro e w1 ⟨rfl, hg1⟩)
    go_ret
    exact ⟨(congrArg (fun b => Ending.returned (.bool b)) hv.out).symm, (HG.out _).trans hg1 (fun _ _ f => f)⟩
  by_cases k5 : k = 5
  · subst k5
    have hv := hid (s5 t ns n)
    have hal : ∀ W, Calls Try.prog 81 #[.agg #[.int .i64 5, St t, .slice an ns.length cn, .slice aa n ca], .bool true, .int .i64 (0)] W fun e w' => e = .returned (.bool (aloneB t ns.length n true (0))) ∧ Grew W w' := fun W => by have := HAL.out W true (0); exact this
    go_enter Try.func58, Try.ntmps58
    go_wp2_with (go_at_call 81; (with_reducible refine (hal _).mono ?_); rintro e w1 ⟨rfl, hg1⟩)
    go_ret
    exact ⟨(congrArg (fun b => Ending.returned (.bool b)) hv.out).symm, (HG.out _).trans hg1 (fun _ _ f => f)⟩
  by_cases k8 : k = 8
  · subst k8
    have hv := hid (s8 t ns n)
    have hal : ∀ W, Calls Try.prog 81 #[.agg #[.int .i64 8, St t, .slice an ns.length cn, .slice aa n ca], .bool false, .int .i64 (3)] W fun e w' => e = .returned (.bool (aloneB t ns.length n false (3))) ∧ Grew W w' := fun W => by have := HAL.out W false (3); exact this
    go_enter Try.func58, Try.ntmps58
    go_wp2_with (go_at_call 81; (with_reducible refine (hal _).mono ?_); rintro e w1 ⟨rfl, hg1⟩)
    go_ret
    exact ⟨(congrArg (fun b => Ending.returned (.bool b)) hv.out).symm, (HG.out _).trans hg1 (fun _ _ f => f)⟩
  by_cases k7 : k = 7
  · subst k7
    have hv := hid (s7 t ns n)
    have hal : ∀ W, Calls Try.prog 81 #[.agg #[.int .i64 7, St t, .slice an ns.length cn, .slice aa n ca], .bool false, .int .i64 (max (n : Int) 2)] W fun e w' => e = .returned (.bool (aloneB t ns.length n false (max (n : Int) 2))) ∧ Grew W w' := fun W => by have := HAL.out W false (max (n : Int) 2); exact this
    go_enter Try.func58, Try.ntmps58
    go_wp2_with (go_at_call 81; (with_reducible refine (hal _).mono ?_); rintro e w1 ⟨rfl, hg1⟩)
    go_ret
    exact ⟨(congrArg (fun b => Ending.returned (.bool b)) hv.out).symm, (HG.out _).trans hg1 (fun _ _ f => f)⟩
  by_cases k6 : k = 6
  · subst k6
    by_cases h1 : t = []
    · subst h1
      cases hq : namesB ns
      · have hv := hid (show shp 6 [] ns n = false from by rw [s6, hq]; rfl)
        have hnm : ∀ W, Grew w W → Calls Try.prog 83 #[.slice an ns.length cn] W fun e w' => e = .returned (.bool false) ∧ Grew W w' := fun W g => by have := HNM.out W g; rwa [hq] at this
        have HCC := hid (And.intro (cell_of_get (heap_alloc_new w (.cells #[.int .i64 6, St [], .slice an ns.length cn, .slice aa n ca] 28)) 2) (cell_of_get (heap_alloc_new w (.cells #[.int .i64 6, St [], .slice an ns.length cn, .slice aa n ca] 28)) 3))
        go_enter Try.func58, Try.ntmps58
        go_wp2_with (go_at_call 83; (with_reducible refine (hnm _ (HG.out _)).mono ?_); rintro e w1 ⟨rfl, hg1⟩; have q2 := hg1.cell (HCC.out.1) (fun f => f); have q3 := hg1.cell (HCC.out.2) (fun f => f))
        go_ret
        exact ⟨(congrArg (fun b => Ending.returned (.bool b)) hv.out).symm, (HG.out _).trans hg1 (fun _ _ f => f)⟩
      · have hv := hid (show shp 6 [] ns n = ((n : Int) == 1) from by rw [s6, hq]; rfl)
        have hnm : ∀ W, Grew w W → Calls Try.prog 83 #[.slice an ns.length cn] W fun e w' => e = .returned (.bool true) ∧ Grew W w' := fun W g => by have := HNM.out W g; rwa [hq] at this
        have HCC := hid (And.intro (cell_of_get (heap_alloc_new w (.cells #[.int .i64 6, St [], .slice an ns.length cn, .slice aa n ca] 28)) 2) (cell_of_get (heap_alloc_new w (.cells #[.int .i64 6, St [], .slice an ns.length cn, .slice aa n ca] 28)) 3))
        go_enter Try.func58, Try.ntmps58
        go_wp2_with (go_at_call 83; (with_reducible refine (hnm _ (HG.out _)).mono ?_); rintro e w1 ⟨rfl, hg1⟩; have q2 := hg1.cell (HCC.out.1) (fun f => f); have q3 := hg1.cell (HCC.out.2) (fun f => f))
        go_ret
        exact ⟨(congrArg (fun b => Ending.returned (.bool b)) hv.out).symm, (HG.out _).trans hg1 (fun _ _ f => f)⟩
    · have b1 : t.isEmpty = false := by cases t <;> simp_all
      have hv := hid (show shp 6 t ns n = false from by rw [s6, b1]; rfl)
      go_enter Try.func58, Try.ntmps58
      go_wp2
      go_ret
      exact ⟨(congrArg (fun b => Ending.returned (.bool b)) hv.out).symm, HG.out _⟩
  by_cases k9 : k = 9
  · subst k9
    by_cases h1 : t = []
    · subst h1
      cases hq : namesB ns
      · have hv := hid (show shp 9 [] ns n = false from by rw [s9, hq]; rfl)
        have hnm : ∀ W, Grew w W → Calls Try.prog 83 #[.slice an ns.length cn] W fun e w' => e = .returned (.bool false) ∧ Grew W w' := fun W g => by have := HNM.out W g; rwa [hq] at this
        have HCC := hid (And.intro (cell_of_get (heap_alloc_new w (.cells #[.int .i64 9, St [], .slice an ns.length cn, .slice aa n ca] 28)) 2) (cell_of_get (heap_alloc_new w (.cells #[.int .i64 9, St [], .slice an ns.length cn, .slice aa n ca] 28)) 3))
        go_enter Try.func58, Try.ntmps58
        go_wp2_with (go_at_call 83; (with_reducible refine (hnm _ (HG.out _)).mono ?_); rintro e w1 ⟨rfl, hg1⟩; have q2 := hg1.cell (HCC.out.1) (fun f => f); have q3 := hg1.cell (HCC.out.2) (fun f => f))
        go_ret
        exact ⟨(congrArg (fun b => Ending.returned (.bool b)) hv.out).symm, (HG.out _).trans hg1 (fun _ _ f => f)⟩
      · have hv := hid (show shp 9 [] ns n = ((n : Int) == (ns.length : Int) + 1) from by rw [s9, hq]; rfl)
        have hnm : ∀ W, Grew w W → Calls Try.prog 83 #[.slice an ns.length cn] W fun e w' => e = .returned (.bool true) ∧ Grew W w' := fun W g => by have := HNM.out W g; rwa [hq] at this
        have HCC := hid (And.intro (cell_of_get (heap_alloc_new w (.cells #[.int .i64 9, St [], .slice an ns.length cn, .slice aa n ca] 28)) 2) (cell_of_get (heap_alloc_new w (.cells #[.int .i64 9, St [], .slice an ns.length cn, .slice aa n ca] 28)) 3))
        go_enter Try.func58, Try.ntmps58
        go_wp2_with (go_at_call 83; (with_reducible refine (hnm _ (HG.out _)).mono ?_); rintro e w1 ⟨rfl, hg1⟩; have q2 := hg1.cell (HCC.out.1) (fun f => f); have q3 := hg1.cell (HCC.out.2) (fun f => f))
        go_ret
        exact ⟨(congrArg (fun b => Ending.returned (.bool b)) hv.out).symm, (HG.out _).trans hg1 (fun _ _ f => f)⟩
    · have b1 : t.isEmpty = false := by cases t <;> simp_all
      have hv := hid (show shp 9 t ns n = false from by rw [s9, b1]; rfl)
      go_enter Try.func58, Try.ntmps58
      go_wp2
      go_ret
      exact ⟨(congrArg (fun b => Ending.returned (.bool b)) hv.out).symm, HG.out _⟩
  by_cases k10 : k = 10
  · subst k10
    rcases ar_cases t with hq | hq | hq
    · have hv := hid (show shp 10 t ns n = false from by rw [s10, hq]; rfl)
      have har : ∀ o q, Calls Try.prog 36 #[St t] ((w.alloc o).drewN q) fun e w' => e = .returned (.int .i64 0) ∧ (w.alloc o).drewN q = w' := fun o q => by have := HRA.out _ ((HG.out o).drewN q); rw [hq] at this; exact this.mono (fun _ _ ⟨a, b⟩ => ⟨a, b.symm⟩)
      go_enter Try.func58, Try.ntmps58
      go_wp2
      go_quiet (first | (go_at_call 36; exact quiet_same (har _ _)))
      go_wp2
      go_ret
      exact ⟨(congrArg (fun b => Ending.returned (.bool b)) hv.out).symm, (HG.out _).drewN _⟩
    · have hv := hid (show shp 10 t ns n = aloneB t ns.length n true 1 from by rw [s10, hq]; rfl)
      obtain ⟨W0, hW0⟩ : ∃ q : World, q = w.alloc (.cells #[.int .i64 10, St t, .slice an ns.length cn, .slice aa n ca] 28) := ⟨_, rfl⟩
      have hg0 : Grew w W0 := hW0 ▸ HG.out _
      have HG0 := hid hg0
      have HC4 : Hid (W0.cell? ⟨w.heap.size, 0, none⟩ = some (.int .i64 10) ∧ W0.cell? ⟨w.heap.size, 1, none⟩ = some (St t) ∧ W0.cell? ⟨w.heap.size, 2, none⟩ = some (.slice an ns.length cn) ∧ W0.cell? ⟨w.heap.size, 3, none⟩ = some (.slice aa n ca)) := hid (by rw [hW0]; exact ⟨cell_of_get (heap_alloc_new w _) 0, cell_of_get (heap_alloc_new w _) 1, cell_of_get (heap_alloc_new w _) 2, cell_of_get (heap_alloc_new w _) 3⟩)
      have har : ∀ W, Grew W0 W → Calls Try.prog 36 #[St t] W fun e w' => e = .returned (.int .i64 1) ∧ W = w' := fun W g => by have := HRA.out _ (hg0.trans g (fun _ _ f => f)); rw [hq] at this; exact this.mono (fun _ _ ⟨a, b⟩ => ⟨a, b.symm⟩)
      have hal : ∀ W, Calls Try.prog 81 #[.agg #[.int .i64 10, St t, .slice an ns.length cn, .slice aa n ca], .bool true, .int .i64 (1)] W fun e w' => e = .returned (.bool (aloneB t ns.length n true 1)) ∧ Grew W w' := fun W => by have := HAL.out W true (1); exact this
      clear hg0
      go_enter Try.func58, Try.ntmps58
      go_wp2
      rw [← hW0]
      clear hW0
      refine Rg.wp_region_facts 11 Grew [(87, Rg.Ex (.pointer (some ⟨w.heap.size, 1, none⟩))), (88, Rg.Ex (St t)), (89, Rg.Ex (.int .i64 1)), (90, Rg.Ex (.bool true)), (91, Rg.Ex (.bool true)), (92, Rg.Ex (.agg #[.int .i64 10, St t, .slice an ns.length cn, .slice aa n ca])), (93, Rg.Ex (.pointer (some ⟨w.heap.size, 1, none⟩))), (94, Rg.Ex (St t)), (95, Rg.Ex (.int .i64 1)), (96, Rg.Ex (.bool (aloneB t ns.length n true 1))), (97, Rg.Ex (.bool (aloneB t ns.length n true 1)))] (by kernel_rfl) (by kernel_rfl) (by rfl) (by rfl)
        (fun a => Fr.refl _ a) (fun a b c h k => h.trans k (fun _ _ f => f)) (Fr.refl _ _).drew
        (Rg.Stays.all ⟨Rg.Ex.stays _, Rg.Ex.stays _, Rg.Ex.stays _, Rg.Ex.stays _, Rg.Ex.stays _, Rg.Ex.stays _, Rg.Ex.stays _, Rg.Ex.stays _, Rg.Ex.stays _, Rg.Ex.stays _, Rg.Ex.stays _, trivial⟩) ?_ ?_
      · go_light
        refine Rg.OpGoals.cons (Rg.OpGoal.plain rfl ?_) (Rg.OpGoals.cons (Rg.OpGoal.plain rfl ?_) (Rg.OpGoals.cons (Rg.OpGoal.plain rfl ?_) (Rg.OpGoals.cons (Rg.OpGoal.plain rfl ?_) (Rg.OpGoals.cons (Rg.OpGoal.plain rfl ?_) (Rg.OpGoals.cons (Rg.OpGoal.guarded (d := 91) (want := true) rfl (fun _ _ h => h) ?_) (Rg.OpGoals.cons (Rg.OpGoal.guarded (d := 91) (want := true) rfl (fun _ _ h => h) ?_) (Rg.OpGoals.cons (Rg.OpGoal.guarded (d := 91) (want := true) rfl (fun _ _ h => h) ?_) (Rg.OpGoals.cons (Rg.OpGoal.guarded (d := 91) (want := true) rfl (fun _ _ h => h) ?_) (Rg.OpGoals.cons (Rg.OpGoal.guarded (d := 91) (want := true) rfl (fun _ _ h => h) ?_) (Rg.OpGoals.cons (Rg.OpGoal.plain rfl ?_) Rg.OpGoals.none))))))))))
        all_goals (intro a' w' hS hR; simp [Rg.Rd, Op.operands, Call.operands, Rg.Fk, Rg.Ex] at hR)
        all_goals (have e0' := hS.cell HC4.out.1 (fun f => f))
        all_goals (have e1' := hS.cell HC4.out.2.1 (fun f => f))
        all_goals (have e2' := hS.cell HC4.out.2.2.1 (fun f => f))
        all_goals (have e3' := hS.cell HC4.out.2.2.2 (fun f => f))
        all_goals try (simp [Rg.Yields, execOp, Act.eval, hR, e0', e1', e2', e3', go_sem, Rg.Fk, Rg.Ex, Fr.refl]; done)
        · simp [Rg.Yields, Act.eval, hR, go_sem, Rg.Fk, Rg.Ex]
          refine (har _ hS).mono ?_
          rintro e w2 ⟨rfl, rfl⟩
          exact ⟨_, rfl, rfl, Fr.refl _ _⟩
        · simp [Rg.Yields, Act.eval, hR, go_sem, Rg.Fk, Rg.Ex]
          refine (har _ hS).mono ?_
          rintro e w2 ⟨rfl, rfl⟩
          exact ⟨_, rfl, rfl, Fr.refl _ _⟩
        · simp [Rg.Yields, Act.eval, hR, go_sem, Rg.Fk, Rg.Ex]
          refine (hal _).mono ?_
          rintro e w2 ⟨rfl, h2⟩
          exact ⟨_, rfl, rfl, h2⟩
      · intro w6 hS
        rintro _ rfl _ rfl _ rfl _ rfl _ rfl _ rfl _ rfl _ rfl _ rfl _ rfl _ rfl
        refine Rg.Then.nil ?_
        have HS := hid hS
        clear hS
        go_wp2
        go_ret
        exact ⟨(congrArg (fun b => Ending.returned (.bool b)) hv.out).symm, HG0.out.trans HS.out (fun _ _ f => f)⟩
    · have hv := hid (show shp 10 t ns n = aloneB t ns.length n true 2 from by rw [s10, hq]; rfl)
      obtain ⟨W0, hW0⟩ : ∃ q : World, q = w.alloc (.cells #[.int .i64 10, St t, .slice an ns.length cn, .slice aa n ca] 28) := ⟨_, rfl⟩
      have hg0 : Grew w W0 := hW0 ▸ HG.out _
      have HG0 := hid hg0
      have HC4 : Hid (W0.cell? ⟨w.heap.size, 0, none⟩ = some (.int .i64 10) ∧ W0.cell? ⟨w.heap.size, 1, none⟩ = some (St t) ∧ W0.cell? ⟨w.heap.size, 2, none⟩ = some (.slice an ns.length cn) ∧ W0.cell? ⟨w.heap.size, 3, none⟩ = some (.slice aa n ca)) := hid (by rw [hW0]; exact ⟨cell_of_get (heap_alloc_new w _) 0, cell_of_get (heap_alloc_new w _) 1, cell_of_get (heap_alloc_new w _) 2, cell_of_get (heap_alloc_new w _) 3⟩)
      have har : ∀ W, Grew W0 W → Calls Try.prog 36 #[St t] W fun e w' => e = .returned (.int .i64 2) ∧ W = w' := fun W g => by have := HRA.out _ (hg0.trans g (fun _ _ f => f)); rw [hq] at this; exact this.mono (fun _ _ ⟨a, b⟩ => ⟨a, b.symm⟩)
      have hal : ∀ W, Calls Try.prog 81 #[.agg #[.int .i64 10, St t, .slice an ns.length cn, .slice aa n ca], .bool true, .int .i64 (2)] W fun e w' => e = .returned (.bool (aloneB t ns.length n true 2)) ∧ Grew W w' := fun W => by have := HAL.out W true (2); exact this
      clear hg0
      go_enter Try.func58, Try.ntmps58
      go_wp2
      rw [← hW0]
      clear hW0
      refine Rg.wp_region_facts 11 Grew [(87, Rg.Ex (.pointer (some ⟨w.heap.size, 1, none⟩))), (88, Rg.Ex (St t)), (89, Rg.Ex (.int .i64 2)), (90, Rg.Ex (.bool true)), (91, Rg.Ex (.bool true)), (92, Rg.Ex (.agg #[.int .i64 10, St t, .slice an ns.length cn, .slice aa n ca])), (93, Rg.Ex (.pointer (some ⟨w.heap.size, 1, none⟩))), (94, Rg.Ex (St t)), (95, Rg.Ex (.int .i64 2)), (96, Rg.Ex (.bool (aloneB t ns.length n true 2))), (97, Rg.Ex (.bool (aloneB t ns.length n true 2)))] (by kernel_rfl) (by kernel_rfl) (by rfl) (by rfl)
        (fun a => Fr.refl _ a) (fun a b c h k => h.trans k (fun _ _ f => f)) (Fr.refl _ _).drew
        (Rg.Stays.all ⟨Rg.Ex.stays _, Rg.Ex.stays _, Rg.Ex.stays _, Rg.Ex.stays _, Rg.Ex.stays _, Rg.Ex.stays _, Rg.Ex.stays _, Rg.Ex.stays _, Rg.Ex.stays _, Rg.Ex.stays _, Rg.Ex.stays _, trivial⟩) ?_ ?_
      · go_light
        refine Rg.OpGoals.cons (Rg.OpGoal.plain rfl ?_) (Rg.OpGoals.cons (Rg.OpGoal.plain rfl ?_) (Rg.OpGoals.cons (Rg.OpGoal.plain rfl ?_) (Rg.OpGoals.cons (Rg.OpGoal.plain rfl ?_) (Rg.OpGoals.cons (Rg.OpGoal.plain rfl ?_) (Rg.OpGoals.cons (Rg.OpGoal.guarded (d := 91) (want := true) rfl (fun _ _ h => h) ?_) (Rg.OpGoals.cons (Rg.OpGoal.guarded (d := 91) (want := true) rfl (fun _ _ h => h) ?_) (Rg.OpGoals.cons (Rg.OpGoal.guarded (d := 91) (want := true) rfl (fun _ _ h => h) ?_) (Rg.OpGoals.cons (Rg.OpGoal.guarded (d := 91) (want := true) rfl (fun _ _ h => h) ?_) (Rg.OpGoals.cons (Rg.OpGoal.guarded (d := 91) (want := true) rfl (fun _ _ h => h) ?_) (Rg.OpGoals.cons (Rg.OpGoal.plain rfl ?_) Rg.OpGoals.none))))))))))
        all_goals (intro a' w' hS hR; simp [Rg.Rd, Op.operands, Call.operands, Rg.Fk, Rg.Ex] at hR)
        all_goals (have e0' := hS.cell HC4.out.1 (fun f => f))
        all_goals (have e1' := hS.cell HC4.out.2.1 (fun f => f))
        all_goals (have e2' := hS.cell HC4.out.2.2.1 (fun f => f))
        all_goals (have e3' := hS.cell HC4.out.2.2.2 (fun f => f))
        all_goals try (simp [Rg.Yields, execOp, Act.eval, hR, e0', e1', e2', e3', go_sem, Rg.Fk, Rg.Ex, Fr.refl]; done)
        · simp [Rg.Yields, Act.eval, hR, go_sem, Rg.Fk, Rg.Ex]
          refine (har _ hS).mono ?_
          rintro e w2 ⟨rfl, rfl⟩
          exact ⟨_, rfl, rfl, Fr.refl _ _⟩
        · simp [Rg.Yields, Act.eval, hR, go_sem, Rg.Fk, Rg.Ex]
          refine (har _ hS).mono ?_
          rintro e w2 ⟨rfl, rfl⟩
          exact ⟨_, rfl, rfl, Fr.refl _ _⟩
        · simp [Rg.Yields, Act.eval, hR, go_sem, Rg.Fk, Rg.Ex]
          refine (hal _).mono ?_
          rintro e w2 ⟨rfl, h2⟩
          exact ⟨_, rfl, rfl, h2⟩
      · intro w6 hS
        rintro _ rfl _ rfl _ rfl _ rfl _ rfl _ rfl _ rfl _ rfl _ rfl _ rfl _ rfl
        refine Rg.Then.nil ?_
        have HS := hid hS
        clear hS
        go_wp2
        go_ret
        exact ⟨(congrArg (fun b => Ending.returned (.bool b)) hv.out).symm, HG0.out.trans HS.out (fun _ _ f => f)⟩
  have hv := hid (show shp k t ns n = false from by simp [shp, k1, k2, k3, k4, k5, k6, k7, k8, k9, k10])
  go_enter Try.func58, Try.ntmps58
  go_wp2
  go_ret
  exact ⟨(congrArg (fun b => Ending.returned (.bool b)) hv.out).symm, HG.out _⟩
end Go.Proofs.Ytddcfnjmppijjaa
