import Derived.Test.YtddcfnjmppijjaaM16
import Derived.Test.YtddcfnjmppijjaaN2
import Derived.Test.YtddcfnjmppijjaaN3
/-! thunkref5.shape: has a term what its kind has. -/
namespace Go.Proofs.Ytddcfnjmppijjaa
open Go.RowKit

/-- has a term what its kind has: its kind, its text, its names, how many parts -/
def shp (k : Int) (t : Str) (ns : List Str) (n : Nat) : Bool :=
  if k = 1 then numOk t && decide (n + ns.length = 0)
  else if k = 2 then (decide (t = [35, 116]) || decide (t = [35, 102])) && decide (n + ns.length = 0)
  else if k = 3 then t.isEmpty && decide (n + ns.length = 0)
  else if k = 4 ∨ k = 5 then (!t.isEmpty) && decide (n + ns.length = 0)
  else if k = 6 then t.isEmpty && (decide (0 < ns.length) && (decide (n = 1) && onceB ns))
  else if k = 7 then t.isEmpty && (decide (ns.length = 0) && decide (2 ≤ n))
  else if k = 8 then t.isEmpty && (decide (ns.length = 0) && decide (n = 3))
  else if k = 9 then t.isEmpty && (decide (0 < ns.length) && (decide (n = ns.length + 1) && onceB ns))
  else if k = 10 then decide (0 < ar t) && (decide ((n : Int) = ar t) && decide (ns.length = 0))
  else false

theorem ar_cases (t : Str) : ar t = 0 ∨ ar t = 1 ∨ ar t = 2 := by
  unfold ar
  split
  · exact .inr (.inr rfl)
  · split
    · exact .inr (.inl rfl)
    · exact .inl rfl
theorem d0 (n m : Nat) : decide (n + m = 0) = ((n : Int) + (m : Int) == 0) := by
  by_cases h : n + m = 0
  · rw [decide_eq_true h]; symm; simp; omega
  · rw [decide_eq_false h]; symm; simp; omega
theorem d1 (n : Nat) : decide (2 ≤ n) = decide ((2 : Int) ≤ (n : Int)) := by
  by_cases h : 2 ≤ n
  · rw [decide_eq_true h, decide_eq_true (by omega)]
  · rw [decide_eq_false h, decide_eq_false (by omega)]
theorem d3 (n k : Nat) : decide (n = k) = ((n : Int) == (k : Int)) := by
  by_cases h : n = k
  · rw [decide_eq_true h]; symm; simp; omega
  · rw [decide_eq_false h]; symm; simp; omega

set_option maxHeartbeats 8000000 in
set_option maxRecDepth 100000 in
theorem refshape_any {w : World} {D : Nat → Prop} {an : Option Addr} {m cn : Nat} {ns : List Str} (h : Nm w D (.slice an m cn) ns) (k : Int) (t : Str) (aa : Option Addr) (n ca : Nat)
    (ht : t.length ≤ 1000000) (hm : m ≤ 1000000) (hn : n ≤ 1000000) :
    Calls Try.prog 59 #[.agg #[Kv k, St t, .slice an m cn, .slice aa n ca]] w fun e w' => e = .returned (.bool (shp k t ns n)) ∧ Grew w w' := by
  obtain ⟨an', cn', e, -⟩ := h.shape
  simp only [Value.slice.injEq] at e
  obtain ⟨rfl, rfl, rfl⟩ := e
  have HG := hid (fun (o : Obj) q => ((Fr.refl (fun _ => False) w).alloc o).drewN q)
  have HRN := hid (fun W => refnum_any W t ht)
  have HRA := hid (fun W => refar_any W t)
  have HON := hid (fun (W : World) (g : Grew w W) => once_any (h.kept g (fun _ f => f.elim)))
  clear h
  by_cases k1 : k = 1
  · subst k1
    cases hq : numOk t
    · have hrn : ∀ W, Calls Try.prog 84 #[St t] W fun e w' => e = .returned (.bool false) ∧ W = w' := fun W => by have := refnum_any W t ht; rwa [hq] at this
      have hv := hid (show shp 1 (t) ns n = false from by simp [shp, hq])
      go_enter Try.func59, Try.ntmps59
      go_wp2
      go_quiet (fail)
      go_wp2_with (go_at_call 84; (with_reducible refine (hrn _).mono ?_); rintro e w' ⟨rfl, rfl⟩)
      go_ret
      exact ⟨(congrArg (fun b => Ending.returned (.bool b)) hv.out).symm, HG.out _ _⟩
    · have hrn : ∀ W, Calls Try.prog 84 #[St t] W fun e w' => e = .returned (.bool true) ∧ W = w' := fun W => by have := refnum_any W t ht; rwa [hq] at this
      have hv := hid ((show shp 1 (t) ns n = decide (n + ns.length = 0) from by simp [shp, hq]).trans (d0 _ _))
      go_enter Try.func59, Try.ntmps59
      go_wp2
      go_quiet (fail)
      go_wp2_with (go_at_call 84; (with_reducible refine (hrn _).mono ?_); rintro e w' ⟨rfl, rfl⟩)
      go_ret
      exact ⟨(congrArg (fun b => Ending.returned (.bool b)) hv.out).symm, HG.out _ _⟩
  by_cases k2 : k = 2
  · subst k2
    by_cases h1 : t = [35, 116]
    · subst h1
      have hv := hid ((show shp 2 ([35, 116]) ns n = decide (n + ns.length = 0) from by simp [shp]).trans (d0 _ _))
      go_enter Try.func59, Try.ntmps59
      go_wp2
      go_quiet (fail)
      go_wp2
      go_ret
      exact ⟨(congrArg (fun b => Ending.returned (.bool b)) hv.out).symm, HG.out _ _⟩
    · by_cases h2 : t = [35, 102]
      · subst h2
        have hv := hid ((show shp 2 ([35, 102]) ns n = decide (n + ns.length = 0) from by simp [shp]).trans (d0 _ _))
        go_enter Try.func59, Try.ntmps59
        go_wp2
        go_quiet (fail)
        go_wp2
        go_ret
        exact ⟨(congrArg (fun b => Ending.returned (.bool b)) hv.out).symm, HG.out _ _⟩
      · have b1 : (t == [35, 116]) = false := by simpa using h1
        have b2 : (t == [35, 102]) = false := by simpa using h2
        have hv := hid (show shp 2 (t) ns n = false from by simp [shp, h1, h2])
        go_enter Try.func59, Try.ntmps59
        go_wp2
        go_quiet (fail)
        go_wp2
        go_ret
        exact ⟨(congrArg (fun b => Ending.returned (.bool b)) hv.out).symm, HG.out _ _⟩
  by_cases k3 : k = 3
  · subst k3
    by_cases h1 : t = []
    · subst h1
      have hv := hid ((show shp 3 ([]) ns n = decide (n + ns.length = 0) from by simp [shp]).trans (d0 _ _))
      go_enter Try.func59, Try.ntmps59
      go_wp2
      go_quiet (fail)
      go_wp2
      go_ret
      exact ⟨(congrArg (fun b => Ending.returned (.bool b)) hv.out).symm, HG.out _ _⟩
    · have b1 : t.isEmpty = false := by cases t <;> simp_all
      have hv := hid (show shp 3 (t) ns n = false from by simp [shp, b1])
      go_enter Try.func59, Try.ntmps59
      go_wp2
      go_quiet (fail)
      go_wp2
      go_ret
      exact ⟨(congrArg (fun b => Ending.returned (.bool b)) hv.out).symm, HG.out _ _⟩
  by_cases k4 : k = 4
  · subst k4
    by_cases h1 : t = []
    · subst h1
      have hv := hid (show shp 4 ([]) ns n = false from by simp [shp])
      go_enter Try.func59, Try.ntmps59
      go_wp2
      go_quiet (fail)
      go_wp2
      go_ret
      exact ⟨(congrArg (fun b => Ending.returned (.bool b)) hv.out).symm, HG.out _ _⟩
    · have b1 : t.isEmpty = false := by cases t <;> simp_all
      have hv := hid ((show shp 4 (t) ns n = decide (n + ns.length = 0) from by simp [shp, b1]).trans (d0 _ _))
      go_enter Try.func59, Try.ntmps59
      go_wp2
      go_quiet (fail)
      go_wp2
      go_ret
      exact ⟨(congrArg (fun b => Ending.returned (.bool b)) hv.out).symm, HG.out _ _⟩
  by_cases k5 : k = 5
  · subst k5
    by_cases h1 : t = []
    · subst h1
      have hv := hid (show shp 5 ([]) ns n = false from by simp [shp])
      go_enter Try.func59, Try.ntmps59
      go_wp2
      go_quiet (fail)
      go_wp2
      go_ret
      exact ⟨(congrArg (fun b => Ending.returned (.bool b)) hv.out).symm, HG.out _ _⟩
    · have b1 : t.isEmpty = false := by cases t <;> simp_all
      have hv := hid ((show shp 5 (t) ns n = decide (n + ns.length = 0) from by simp [shp, b1]).trans (d0 _ _))
      go_enter Try.func59, Try.ntmps59
      go_wp2
      go_quiet (fail)
      go_wp2
      go_ret
      exact ⟨(congrArg (fun b => Ending.returned (.bool b)) hv.out).symm, HG.out _ _⟩
  by_cases k6 : k = 6
  · subst k6
    by_cases h1 : t = []
    · subst h1
      by_cases h2 : (0 : Int) < ns.length
      · have b2 : 0 < ns.length := by omega
        by_cases h3 : (n : Int) = 1
        · have b3 : n = 1 := by omega
          cases hq : onceB ns
          · have hon : ∀ W, Grew w W → Calls Try.prog 85 #[.slice an ns.length cn] W fun e w' => e = .returned (.bool false) ∧ Grew W w' := fun W g => by have := HON.out W g; rwa [hq] at this
            have hv := hid (show shp 6 ([]) ns n = false from by simp [shp, b2, b3, hq])
            subst b3
            go_enter Try.func59, Try.ntmps59
            go_wp2
            go_quiet (fail)
            go_wp2_with (go_at_call 85; (with_reducible refine (hon _ (HG.out _ _)).mono ?_); rintro e w' ⟨rfl, hg⟩)
            go_ret
            exact ⟨(congrArg (fun b => Ending.returned (.bool b)) hv.out).symm, (HG.out _ _).trans hg (fun _ _ f => f)⟩
          · have hon : ∀ W, Grew w W → Calls Try.prog 85 #[.slice an ns.length cn] W fun e w' => e = .returned (.bool true) ∧ Grew W w' := fun W g => by have := HON.out W g; rwa [hq] at this
            have hv := hid (show shp 6 ([]) ns n = true from by simp [shp, b2, b3, hq])
            subst b3
            go_enter Try.func59, Try.ntmps59
            go_wp2
            go_quiet (fail)
            go_wp2_with (go_at_call 85; (with_reducible refine (hon _ (HG.out _ _)).mono ?_); rintro e w' ⟨rfl, hg⟩)
            go_ret
            exact ⟨(congrArg (fun b => Ending.returned (.bool b)) hv.out).symm, (HG.out _ _).trans hg (fun _ _ f => f)⟩
        · have b3 : ¬ n = 1 := by omega
          have hv := hid (show shp 6 ([]) ns n = false from by simp [shp, b2, b3])
          go_enter Try.func59, Try.ntmps59
          go_wp2
          go_quiet (fail)
          go_wp2
          go_ret
          exact ⟨(congrArg (fun b => Ending.returned (.bool b)) hv.out).symm, HG.out _ _⟩
      · have b2 : ¬ 0 < ns.length := by omega
        have hv := hid (show shp 6 ([]) ns n = false from by simp [shp, b2])
        go_enter Try.func59, Try.ntmps59
        go_wp2
        go_quiet (fail)
        go_wp2
        go_ret
        exact ⟨(congrArg (fun b => Ending.returned (.bool b)) hv.out).symm, HG.out _ _⟩
    · have b1 : t.isEmpty = false := by cases t <;> simp_all
      have hv := hid (show shp 6 (t) ns n = false from by simp [shp, b1])
      go_enter Try.func59, Try.ntmps59
      go_wp2
      go_quiet (fail)
      go_wp2
      go_ret
      exact ⟨(congrArg (fun b => Ending.returned (.bool b)) hv.out).symm, HG.out _ _⟩
  by_cases k7 : k = 7
  · subst k7
    by_cases h1 : t = []
    · subst h1
      by_cases h2 : (ns.length : Int) = 0
      · have b2 : ns.length = 0 := by omega
        have hv := hid ((show shp 7 ([]) ns n = decide (2 ≤ n) from by simp [shp, b2]).trans (d1 n))
        go_enter Try.func59, Try.ntmps59
        go_wp2
        go_quiet (fail)
        go_wp2
        go_ret
        exact ⟨(congrArg (fun b => Ending.returned (.bool b)) hv.out).symm, HG.out _ _⟩
      · have b2 : ¬ ns.length = 0 := by omega
        have hv := hid (show shp 7 ([]) ns n = false from by simp [shp, b2])
        go_enter Try.func59, Try.ntmps59
        go_wp2
        go_quiet (fail)
        go_wp2
        go_ret
        exact ⟨(congrArg (fun b => Ending.returned (.bool b)) hv.out).symm, HG.out _ _⟩
    · have b1 : t.isEmpty = false := by cases t <;> simp_all
      have hv := hid (show shp 7 (t) ns n = false from by simp [shp, b1])
      go_enter Try.func59, Try.ntmps59
      go_wp2
      go_quiet (fail)
      go_wp2
      go_ret
      exact ⟨(congrArg (fun b => Ending.returned (.bool b)) hv.out).symm, HG.out _ _⟩
  by_cases k8 : k = 8
  · subst k8
    by_cases h1 : t = []
    · subst h1
      by_cases h2 : (ns.length : Int) = 0
      · have b2 : ns.length = 0 := by omega
        have hv := hid ((show shp 8 ([]) ns n = decide (n = 3) from by simp [shp, b2]).trans (d3 n 3))
        go_enter Try.func59, Try.ntmps59
        go_wp2
        go_quiet (fail)
        go_wp2
        go_ret
        exact ⟨(congrArg (fun b => Ending.returned (.bool b)) hv.out).symm, HG.out _ _⟩
      · have b2 : ¬ ns.length = 0 := by omega
        have hv := hid (show shp 8 ([]) ns n = false from by simp [shp, b2])
        go_enter Try.func59, Try.ntmps59
        go_wp2
        go_quiet (fail)
        go_wp2
        go_ret
        exact ⟨(congrArg (fun b => Ending.returned (.bool b)) hv.out).symm, HG.out _ _⟩
    · have b1 : t.isEmpty = false := by cases t <;> simp_all
      have hv := hid (show shp 8 (t) ns n = false from by simp [shp, b1])
      go_enter Try.func59, Try.ntmps59
      go_wp2
      go_quiet (fail)
      go_wp2
      go_ret
      exact ⟨(congrArg (fun b => Ending.returned (.bool b)) hv.out).symm, HG.out _ _⟩
  by_cases k9 : k = 9
  · subst k9
    by_cases h1 : t = []
    · subst h1
      by_cases h2 : (0 : Int) < ns.length
      · have b2 : 0 < ns.length := by omega
        by_cases h3 : (n : Int) = (ns.length : Int) + 1
        · have b3 : n = ns.length + 1 := by omega
          cases hq : onceB ns
          · have hon : ∀ W, Grew w W → Calls Try.prog 85 #[.slice an ns.length cn] W fun e w' => e = .returned (.bool false) ∧ Grew W w' := fun W g => by have := HON.out W g; rwa [hq] at this
            have hv := hid (show shp 9 ([]) ns n = false from by simp [shp, b2, b3, hq])
            subst b3
            go_enter Try.func59, Try.ntmps59
            go_wp2
            go_quiet (fail)
            go_wp2_with (go_at_call 85; (with_reducible refine (hon _ (HG.out _ _)).mono ?_); rintro e w' ⟨rfl, hg⟩)
            go_ret
            exact ⟨(congrArg (fun b => Ending.returned (.bool b)) hv.out).symm, (HG.out _ _).trans hg (fun _ _ f => f)⟩
          · have hon : ∀ W, Grew w W → Calls Try.prog 85 #[.slice an ns.length cn] W fun e w' => e = .returned (.bool true) ∧ Grew W w' := fun W g => by have := HON.out W g; rwa [hq] at this
            have hv := hid (show shp 9 ([]) ns n = true from by simp [shp, b2, b3, hq])
            subst b3
            go_enter Try.func59, Try.ntmps59
            go_wp2
            go_quiet (fail)
            go_wp2_with (go_at_call 85; (with_reducible refine (hon _ (HG.out _ _)).mono ?_); rintro e w' ⟨rfl, hg⟩)
            go_ret
            exact ⟨(congrArg (fun b => Ending.returned (.bool b)) hv.out).symm, (HG.out _ _).trans hg (fun _ _ f => f)⟩
        · have b3 : ¬ n = ns.length + 1 := by omega
          have hv := hid (show shp 9 ([]) ns n = false from by simp [shp, b2, b3])
          go_enter Try.func59, Try.ntmps59
          go_wp2
          go_quiet (fail)
          go_wp2
          go_ret
          exact ⟨(congrArg (fun b => Ending.returned (.bool b)) hv.out).symm, HG.out _ _⟩
      · have b2 : ¬ 0 < ns.length := by omega
        have hv := hid (show shp 9 ([]) ns n = false from by simp [shp, b2])
        go_enter Try.func59, Try.ntmps59
        go_wp2
        go_quiet (fail)
        go_wp2
        go_ret
        exact ⟨(congrArg (fun b => Ending.returned (.bool b)) hv.out).symm, HG.out _ _⟩
    · have b1 : t.isEmpty = false := by cases t <;> simp_all
      have hv := hid (show shp 9 (t) ns n = false from by simp [shp, b1])
      go_enter Try.func59, Try.ntmps59
      go_wp2
      go_quiet (fail)
      go_wp2
      go_ret
      exact ⟨(congrArg (fun b => Ending.returned (.bool b)) hv.out).symm, HG.out _ _⟩
  by_cases k10 : k = 10
  · subst k10
    have HC : Hid (∀ (q : Nat), ((w.alloc (.cells #[Kv 10, St t, .slice an ns.length cn, .slice aa n ca] 28)).drewN q).cell? ⟨w.heap.size, 1, none⟩ = some (St t)) := hid (fun q => cell_of_get (w := (w.alloc (.cells #[Kv 10, St t, .slice an ns.length cn, .slice aa n ca] 28)).drewN q) (heap_alloc_new w _) 1)
    rcases ar_cases t with hq | hq | hq
    · have HRA1 : Hid (∀ W, Calls Try.prog 37 #[St t] W fun e w' => e = .returned (.int .i64 0) ∧ Grew W w') := hid (fun W => by have := refar_any W t; rwa [hq] at this)
      have HRA := HRA1
      have hv := hid (show shp 10 (t) ns n = false from by simp [shp, hq])
      go_enter Try.func59, Try.ntmps59
      go_wp2
      go_quiet (fail)
      go_wp2_with (first | (go_at_call 37; (with_reducible refine (HRA1.out _).mono ?_); rintro e w1 ⟨rfl, hg1⟩; clear HRA1; have hcc := hg1.cell (HC.out _) (fun f => f)) | (go_at_call 37; (with_reducible refine (HRA.out _).mono ?_); rintro e w2 ⟨rfl, hg2⟩))
      go_ret
      exact ⟨(congrArg (fun b => Ending.returned (.bool b)) hv.out).symm, (HG.out _ _).trans hg1 (fun _ _ f => f)⟩
    · have HRA1 : Hid (∀ W, Calls Try.prog 37 #[St t] W fun e w' => e = .returned (.int .i64 1) ∧ Grew W w') := hid (fun W => by have := refar_any W t; rwa [hq] at this)
      have HRA := HRA1
      by_cases h2 : (n : Int) = 1
      · have b2 : n = 1 := by omega
        have hv := hid ((show shp 10 (t) ns n = decide (ns.length = 0) from by simp [shp, hq, b2]).trans (d3 _ 0))
        subst b2
        go_enter Try.func59, Try.ntmps59
        go_wp2
        go_quiet (fail)
        go_wp2_with (first | (go_at_call 37; (with_reducible refine (HRA1.out _).mono ?_); rintro e w1 ⟨rfl, hg1⟩; clear HRA1; have hcc := hg1.cell (HC.out _) (fun f => f)) | (go_at_call 37; (with_reducible refine (HRA.out _).mono ?_); rintro e w2 ⟨rfl, hg2⟩))
        go_ret
        exact ⟨(congrArg (fun b => Ending.returned (.bool b)) hv.out).symm, ((HG.out _ _).trans hg1 (fun _ _ f => f)).trans hg2 (fun _ _ f => f)⟩
      · have hv := hid (show shp 10 (t) ns n = false from by simp [shp, hq, h2])
        go_enter Try.func59, Try.ntmps59
        go_wp2
        go_quiet (fail)
        go_wp2_with (first | (go_at_call 37; (with_reducible refine (HRA1.out _).mono ?_); rintro e w1 ⟨rfl, hg1⟩; clear HRA1; have hcc := hg1.cell (HC.out _) (fun f => f)) | (go_at_call 37; (with_reducible refine (HRA.out _).mono ?_); rintro e w2 ⟨rfl, hg2⟩))
        go_ret
        exact ⟨(congrArg (fun b => Ending.returned (.bool b)) hv.out).symm, ((HG.out _ _).trans hg1 (fun _ _ f => f)).trans hg2 (fun _ _ f => f)⟩
    · have HRA1 : Hid (∀ W, Calls Try.prog 37 #[St t] W fun e w' => e = .returned (.int .i64 2) ∧ Grew W w') := hid (fun W => by have := refar_any W t; rwa [hq] at this)
      have HRA := HRA1
      by_cases h2 : (n : Int) = 2
      · have b2 : n = 2 := by omega
        have hv := hid ((show shp 10 (t) ns n = decide (ns.length = 0) from by simp [shp, hq, b2]).trans (d3 _ 0))
        subst b2
        go_enter Try.func59, Try.ntmps59
        go_wp2
        go_quiet (fail)
        go_wp2_with (first | (go_at_call 37; (with_reducible refine (HRA1.out _).mono ?_); rintro e w1 ⟨rfl, hg1⟩; clear HRA1; have hcc := hg1.cell (HC.out _) (fun f => f)) | (go_at_call 37; (with_reducible refine (HRA.out _).mono ?_); rintro e w2 ⟨rfl, hg2⟩))
        go_ret
        exact ⟨(congrArg (fun b => Ending.returned (.bool b)) hv.out).symm, ((HG.out _ _).trans hg1 (fun _ _ f => f)).trans hg2 (fun _ _ f => f)⟩
      · have hv := hid (show shp 10 (t) ns n = false from by simp [shp, hq, h2])
        go_enter Try.func59, Try.ntmps59
        go_wp2
        go_quiet (fail)
        go_wp2_with (first | (go_at_call 37; (with_reducible refine (HRA1.out _).mono ?_); rintro e w1 ⟨rfl, hg1⟩; clear HRA1; have hcc := hg1.cell (HC.out _) (fun f => f)) | (go_at_call 37; (with_reducible refine (HRA.out _).mono ?_); rintro e w2 ⟨rfl, hg2⟩))
        go_ret
        exact ⟨(congrArg (fun b => Ending.returned (.bool b)) hv.out).symm, ((HG.out _ _).trans hg1 (fun _ _ f => f)).trans hg2 (fun _ _ f => f)⟩
  have hv := hid (show shp k (t) ns n = false from by simp [shp, k1, k2, k3, k4, k5, k6, k7, k8, k9, k10])
  go_enter Try.func59, Try.ntmps59
  go_wp2
  go_quiet (fail)
  go_wp2
  go_ret
  exact ⟨(congrArg (fun b => Ending.returned (.bool b)) hv.out).symm, HG.out _ _⟩
end Go.Proofs.Ytddcfnjmppijjaa
