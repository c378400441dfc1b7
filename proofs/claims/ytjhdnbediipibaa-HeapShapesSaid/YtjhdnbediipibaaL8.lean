/-
  Of each tag only what it may have is made: 'thunk/thunklaw11.HeapShapes' returns true, for every input.
  No condition beyond the given row's own.
-/
import Derived.Test.YtjhdnbediipibaaK5
import Derived.Test.YtjhdnbediipibaaRows
import Derived.WalkKit
import Derived.ProofKit
import Derived.OpenShut
import Derived.ShutString
import Derived.ChangeOld
import Derived.Below
namespace Go.Proofs.Ytjhdnbediipibaa.heapShapes
open Go.ChangeShapes Go.WideShapes Go.ChangeAt Go.RowKit
open Go.ChangeMaps (open_string shut_string)
set_option linter.unusedVariables false      -- a walk need not use every 'w<i>' (that an integer argument fits its kind)

theorem own : ownKnob Try.prog.godebug = none := by kernel_rfl
theorem laidOut : laidOutB Try.prog = true := by kernel_rfl

/-! ### STEP 1: THE WALK: the Go text returns true. 'Grown w w'': the world has at most new blocks (Derived/RowKit3.lean). Part the cases AHEAD of 'go_enter' where a test parts the walk; take each callee by a contract of your own. -/
theorem make_ints (n : Nat) (hn : n ≤ 1000) (w : World) :
    (Instr.makeSlice 22 (.int .i64 (n : Int)) (.int .i64 (n : Int))).run Try.prog w = .ok (.slice (some ⟨w.heap.size, 0, none⟩) n n) (w.alloc (.cells (madeCells #[.int .i64 0] n) 3)) :=
  run_make_row' (P := Try.prog) 22 3 (.int .i64 0) 8 (by kernel_rfl) (by kernel_rfl) rfl .i64 .i64 n (by omega) (by omega) w
theorem ow_ints (n : Nat) (hn : n ≤ 1000) (w : World) : Ow (w.alloc (.cells (madeCells #[.int .i64 0] n) 3)) (.slice (some ⟨w.heap.size, 0, none⟩) n n) (List.replicate n 0) := by
  obtain ⟨w', h1, h2, h3⟩ := make_zero w n (by omega)
  rw [make_ints n hn w] at h1
  cases h1
  exact h2
/-- the two rows -/
def Rows2 (w : World) (pv nv : Value) (p n : List Int) (wr : World) : Prop :=
  Ow wr pv p ∧ Ow wr nv n ∧ Grew w wr ∧ (∀ g, pv.ownBlock = some g → w.heap.size ≤ g) ∧ (∀ g, nv.ownBlock = some g → w.heap.size ≤ g) ∧ ∀ g, nv.ownBlock = some g → pv.ownBlock ≠ some g

theorem two_rows (k m : Nat) (hk : k ≤ 1000) (hm : m ≤ 1000) (w : World) :
    Rows2 w (.slice (some ⟨w.heap.size, 0, none⟩) k k) (.slice (some ⟨w.heap.size + 1, 0, none⟩) m m) (List.replicate k 0) (List.replicate m 0) ((w.alloc (.cells (madeCells #[.int .i64 0] k) 3)).alloc (.cells (madeCells #[.int .i64 0] m) 3)).drew := by
  have h1 := ow_ints k hk w
  have h2 := ow_ints m hm (w.alloc (.cells (madeCells #[.int .i64 0] k) 3))
  rw [World.size_alloc] at h2
  have g1 := (Grew.alloc (w.alloc (.cells (madeCells #[.int .i64 0] k) 3)) (.cells (madeCells #[.int .i64 0] m) 3)).drew
  have g2 := ((Fr.refl (fun _ => False) ((w.alloc (.cells (madeCells #[.int .i64 0] k) 3)).alloc (.cells (madeCells #[.int .i64 0] m) 3))).drew)
  exact ⟨h1.kept g1 (fun _ _ f => f), h2.kept g2 (fun _ _ f => f), (Grew.alloc w _).trans g1 (fun _ _ f => f), fun g hg => by simp [Value.ownBlock] at hg; omega, fun g hg => by simp [Value.ownBlock] at hg; omega, fun g hg e => by simp [Value.ownBlock] at hg e; omega⟩
theorem two_rows' (k m : Nat) (hk : k ≤ 1000) (hm : m ≤ 1000) (w : World) :
    Rows2 w (.slice (some ⟨w.heap.size + 1, 0, none⟩) k k) (.slice (some ⟨w.heap.size, 0, none⟩) m m) (List.replicate k 0) (List.replicate m 0) ((w.alloc (.cells (madeCells #[.int .i64 0] m) 3)).alloc (.cells (madeCells #[.int .i64 0] k) 3)).drew := by
  obtain ⟨h1, h2, h3, h4, h5, h6⟩ := two_rows m k hm hk w
  exact ⟨h2, h1, h3, h5, h4, fun g hg e => h6 g e hg⟩
theorem fill_set (q m : Nat) (y : Int) (h : q < m) : (List.replicate q y ++ List.replicate (m - q) (0 : Int)).set q y = List.replicate (q + 1) y ++ List.replicate (m - (q + 1)) 0 := by
  rw [List.set_append_right _ _ (by simp), List.length_replicate, Nat.sub_self, show m - q = (m - (q + 1)) + 1 by omega, List.replicate_succ, List.set_cons_zero, List.replicate_succ']
  simp

theorem shape_eq (t : Int) (k j : Nat) (v : Int) : ShapeOk t (List.replicate k 0) (List.replicate j v) ↔
    1 ≤ t ∧ t ≤ 7 ∧ k ≤ 60 ∧ j ≤ 60 ∧ (t = 2 → k = 2 ∧ j = 0) ∧ (t = 5 → k = 1 ∧ j = 0) ∧ (t = 6 → k = 1 ∧ j = 1 ∧ (v = 0 ∨ v = 1)) := by
  unfold ShapeOk
  simp only [List.length_replicate]
  have h : j = 1 → ((List.replicate j v = [0] ∨ List.replicate j v = [1]) ↔ (v = 0 ∨ v = 1)) := by rintro rfl; simp
  constructor
  · rintro ⟨h1, h2, h3, h4, h5, h6, h7⟩
    exact ⟨h1, h2, h3, h4, h5, h6, fun e => ⟨(h7 e).1, (h7 e).2.1, (h (h7 e).2.1).1 (h7 e).2.2⟩⟩
  · rintro ⟨h1, h2, h3, h4, h5, h6, h7⟩
    exact ⟨h1, h2, h3, h4, h5, h6, fun e => ⟨(h7 e).1, (h7 e).2.1, (h (h7 e).2.1).2 (h7 e).2.2⟩⟩

/-! ### STEP 1: THE WALK -/
set_option maxHeartbeats 4000000 in
set_option maxRecDepth 100000 in
theorem walk (a0 : Int) (a1 : Int) (a2 : Int) (a3 : Int) (w0 : (Lit.int .i64 a0).wf = true) (w1 : (Lit.int .i64 a1).wf = true) (w2 : (Lit.int .i64 a2).wf = true) (w3 : (Lit.int .i64 a3).wf = true) (w : World) :
    Calls Try.prog 10 #[.int .i64 a0, .int .i64 a1, .int .i64 a2, .int .i64 a3] w fun e w' => e = .returned (.bool true) ∧ Below w.heap.size w w' := by
  clear w0 w1 w2 w3
  obtain ⟨t0, ht0, ht9⟩ : ∃ t0 : Nat, a0 % 10 = t0 ∧ t0 < 10 := ⟨(a0 % 10).toNat, by omega, by omega⟩
  obtain ⟨k0, hk0, hk64⟩ : ∃ k0 : Nat, a1 % 64 = k0 ∧ k0 < 64 := ⟨(a1 % 64).toNat, by omega, by omega⟩
  obtain ⟨m0, hm0, hm64⟩ : ∃ m0 : Nat, a2 % 64 = m0 ∧ m0 < 64 := ⟨(a2 % 64).toNat, by omega, by omega⟩
  obtain ⟨k1, hk1, hk4⟩ : ∃ k1 : Nat, a1 % 4 = k1 ∧ k1 < 4 := ⟨(a1 % 4).toNat, by omega, by omega⟩
  obtain ⟨m1, hm1, hm3⟩ : ∃ m1 : Nat, a2 % 3 = m1 ∧ m1 < 3 := ⟨(a2 % 3).toNat, by omega, by omega⟩
  obtain ⟨p3, hp3, hp9⟩ : ∃ p3 : Nat, a1 % 3 = p3 ∧ p3 < 3 := ⟨(a1 % 3).toNat, by omega, by omega⟩
  obtain ⟨v4, hv4, hv9⟩ : ∃ v4 : Nat, a3 % 4 = v4 ∧ v4 < 4 := ⟨(a3 % 4).toNat, by omega, by omega⟩
  have c0 := fun w => within11_any a0 10 w (by omega) (by omega)
  have c1 := fun w => within11_any a1 64 w (by omega) (by omega)
  have c2 := fun w => within11_any a2 64 w (by omega) (by omega)
  have c3 := fun w => within11_any a1 4 w (by omega) (by omega)
  have c4 := fun w => within11_any a2 3 w (by omega) (by omega)
  have c5 := fun w => within11_any a1 3 w (by omega) (by omega)
  have c6 := fun w => within11_any a3 4 w (by omega) (by omega)
  rw [ht0] at c0
  rw [hk0] at c1
  rw [hm0] at c2
  rw [hk1] at c3
  rw [hm1] at c4
  rw [hp3] at c5
  rw [hv4] at c6
  clear ht0 hk0 hm0 hk1 hm1 hp3 hv4
  have hkw := known11_any w
  go_enter Try.func10, Try.ntmps10
  go_wp2_with fail
  refine hkw.mono ?_
  rintro e w1 ⟨rfl, g1⟩
  have HG := hid g1
  clear g1 hkw
  go_wp2_with fail
  refine (new_any _ _).mono ?_
  rintro e w2 ⟨hb, f1, rfl, p1, g2, b2⟩
  have H2 := hid (And.intro p1 (And.intro (HG.out.trans g2 (fun _ _ f => f)) (fun b hb => Nat.le_trans HG.out.size (b2 b hb) : ∀ b ∈ f1, w.heap.size ≤ b)))
  clear p1 g2 b2 HG
  go_wp2_with fail
  have hA := atoms_zero 500 (by omega) (by omega)
  refine (alloc_yes H2.out.1 hA.1 7 (Ow.nil _) (Ow.nil _) (atoms_ok hA (by omega))).mono ?_
  intro e w3 hp
  obtain ⟨rfl, f3, p3', g3, b3, _⟩ := rel_made (u := 0) rfl H2.out.2.1 H2.out.2.2 hp
  have hB := atoms_add hA (by omega)
  generalize (⟨[], 0, 500⟩ : AH).add 7 [] [] = A at *
  have H3 := hid (And.intro p3' (And.intro g3 (And.intro b3 hB)))
  clear hA hB hp p3' g3 b3 H2
  go_wp2_with fail
  refine (c0 _).mono ?_
  rintro e w' ⟨rfl, rfl⟩
  go_wp2_with fail
  refine (c1 _).mono ?_
  rintro e w' ⟨rfl, rfl⟩
  go_wp2_with fail
  refine (c2 _).mono ?_
  rintro e w' ⟨rfl, rfl⟩
  go_wp2_with fail
  refine (c5 _).mono ?_
  rintro e w' ⟨rfl, rfl⟩
  go_upto_if 40 with (fail)
  go_cut [13, 14] from 38 to 44 (fun kv mv wx => ∃ k m : Nat, kv = .int .i64 k ∧ mv = .int .i64 m ∧ k < 64 ∧ m < 64 ∧ wx = w3)
  case first =>
    clear H3
    go_wp2_with (first | (go_at_call_of 36 (Value.int .i64 4); refine (c3 _).mono ?_; rintro e w' ⟨rfl, rfl⟩) | (go_at_call_of 36 (Value.int .i64 3); refine (c4 _).mono ?_; rintro e w' ⟨rfl, rfl⟩))
    all_goals go_meet
    · exact ⟨k1, m1, rfl, rfl, by omega, by omega, rfl⟩
    · exact ⟨k0, m0, rfl, rfl, hk64, hm64, rfl⟩
  case rest =>
    obtain ⟨k, m, rfl, rfl, hk, hm, hw⟩ := hcut
    replace hw := hw.symm
    subst hw
    clear c0 c1 c2 c3 c4 c5
    have hmk := make_ints k (by omega)
    have hmm := make_ints m (by omega)
    go_upto_region 10 with (fail)
    go_cut [15, 16] from 45 to 48 (fun pv nv wx => ∃ g1 g2 : Nat, pv = .slice (some ⟨g1, 0, none⟩) k k ∧ nv = .slice (some ⟨g2, 0, none⟩) m m ∧ Rows2 w3 pv nv (List.replicate k 0) (List.replicate m 0) wx)
    case first =>
      clear H3 c6
      go_region
      all_goals go_wp2
      all_goals go_meet
      · exact ⟨_, _, rfl, rfl, two_rows k m (by omega) (by omega) w3⟩
      · exact ⟨_, _, rfl, rfl, two_rows' k m (by omega) (by omega) w3⟩
    case rest =>
      obtain ⟨g1, g2, rfl, rfl, hrows⟩ := hcut
      have HRW := hid hrows
      clear hmk hmm hrows
      go_wp2
      go_loopw [17] (fun i wr => ∃ j : Nat, j ≤ m ∧ i = .int .i64 j ∧ Rows2 w3 (.slice (some ⟨g1, 0, none⟩) k k) (.slice (some ⟨g2, 0, none⟩) m m) (List.replicate k 0) (List.replicate j ((v4 : Int) - 1) ++ List.replicate (m - j) 0) wr) (fun i _ => m - (intOf i).toNat)
      case atStart => exact ⟨0, Nat.zero_le _, rfl, by simpa using HRW.out⟩
      case round =>
        clear HRW
        obtain ⟨j, hj, rfl, q1, q2, q3, q4, q5, q6⟩ := hrel
        by_cases hjm : j < m
        · have hlen3 : (List.replicate j ((v4 : Int) - 1) ++ List.replicate (m - j) 0).length = m := by simp; omega
          have q2' : Ow wr (.slice (some ⟨g2, 0, none⟩) (List.replicate j ((v4 : Int) - 1) ++ List.replicate (m - j) 0).length m) (List.replicate j ((v4 : Int) - 1) ++ List.replicate (m - j) 0) := by rw [hlen3]; exact q2
          obtain ⟨g, cap, he, _, _, _, hcl⟩ := q2'.at (by omega)
          rw [hlen3] at he
          cases he
          obtain ⟨old, hc⟩ : ∃ old, wr.cell? ⟨g2, j, none⟩ = some (Kv old) := ⟨_, (hcl j (by omega)).1⟩
          have hfz := (hcl j (by omega)).2
          have hst := q2'.set j ((v4 : Int) - 1)
          rw [fill_set j m _ hjm, show (List.replicate (j + 1) ((v4 : Int) - 1) ++ List.replicate (m - (j + 1)) (0 : Int)).length = m from by simp; omega] at hst
          have hF : Fr (fun q => q = g2) wr (wr.setCell ⟨g2, j, none⟩ (Kv ((v4 : Int) - 1))) := (Fr.refl (fun q => q = g2) wr).setCell (p := ⟨g2, j, none⟩) (fun _ => rfl) _
          have HN := hid (show Rows2 w3 (.slice (some ⟨g1, 0, none⟩) k k) (.slice (some ⟨g2, 0, none⟩) m m) (List.replicate k 0) (List.replicate (j + 1) ((v4 : Int) - 1) ++ List.replicate (m - (j + 1)) 0) (wr.setCell ⟨g2, j, none⟩ (Kv ((v4 : Int) - 1))) from
            ⟨q1.kept hF (fun g hg e => q6 g2 rfl (by rw [hg, e])), hst, grew_step q3 hF (fun i e => by subst e; exact q5 _ rfl), q4, q5, q6⟩)
          clear q1 q2 q3 q4 q5 q6 q2' hlen3 hcl hst hF
          go_wp2_with (go_at_call 36; refine (c6 _).mono ?_; rintro e w' ⟨rfl, rfl⟩)
          go_roundw
          case rel => exact ⟨j + 1, by omega, by go_num, HN.out⟩
          case measure => simp [intOf]; omega
        · have hjm' : j = m := by omega
          subst hjm'
          rw [Nat.sub_self, List.replicate_zero, List.append_nil] at q2
          have HRW := hid (show Rows2 w3 _ _ _ _ wr from ⟨q1, q2, q3, q4, q5, q6⟩)
          clear q1 q2 q3 q4 q5 q6 c6 hj
          go_upto_region 15 with (fail)
          clear hjm
          go_cut [18] from 60 to 73 (fun v wx => v = .bool (decide (1 ≤ (t0 : Int) - 1 ∧ (t0 : Int) - 1 ≤ 7 ∧ k ≤ 60 ∧ j ≤ 60)) ∧ wx = wr)
          case first =>
            clear HRW H3
            go_wp2
            all_goals go_meet
            all_goals (refine ⟨?_, rfl⟩; go_light; congr 1; rw [Bool.eq_iff_iff]; simp only [decide_eq_true_eq, Bool.false_eq_true, false_iff]; omega)
          case rest =>
            obtain ⟨rfl, hw⟩ := hcut
            replace hw := hw.symm
            subst hw
            go_upto_block 2 with (fail)
            go_cut [18] from 75 to 110 (fun v wx => v = .bool (decide (ShapeOk ((t0 : Int) - 1) (List.replicate k 0) (List.replicate j ((v4 : Int) - 1)))) ∧ wx = wr)
            case first =>
              by_cases hj0 : j = 0
              · subst hj0
                clear HRW H3
                (rcases (show ((k : Int) == 2) = true ∨ ((k : Int) == 2) = false from by cases ((k : Int) == 2) <;> simp) with e1 | e1) <;> (rcases (show ((k : Int) == 1) = true ∨ ((k : Int) == 1) = false from by cases ((k : Int) == 1) <;> simp) with e2 | e2)
                all_goals go_wp2
                all_goals go_meet
                all_goals (refine ⟨?_, rfl⟩; go_light; congr 1; rw [Bool.eq_iff_iff]; simp only [decide_eq_true_eq, Bool.false_eq_true, false_iff, beq_iff_eq, beq_eq_false_iff_ne, ne_eq, shape_eq, true_iff, and_true] at *; omega)
              · obtain ⟨g, cap, he, _, _, _, hcl⟩ := (show Ow wr (.slice (some ⟨g2, 0, none⟩) (List.replicate j ((v4 : Int) - 1)).length j) _ from by rw [List.length_replicate]; exact HRW.out.2.1).at (by simp; omega)
                cases he
                have hc0 : wr.cell? ⟨g2, 0, none⟩ = some (Kv ((v4 : Int) - 1)) := by have := (hcl 0 (by simp; omega)).1; simpa using this
                have hj1 : 0 < j := by omega
                clear HRW H3 hcl hj0
                (rcases (show ((k : Int) == 2) = true ∨ ((k : Int) == 2) = false from by cases ((k : Int) == 2) <;> simp) with e1 | e1) <;> (rcases (show ((k : Int) == 1) = true ∨ ((k : Int) == 1) = false from by cases ((k : Int) == 1) <;> simp) with e2 | e2) <;> (rcases (show ((j : Int) == 1) = true ∨ ((j : Int) == 1) = false from by cases ((j : Int) == 1) <;> simp) with e3 | e3)
                all_goals go_wp2
                all_goals go_meet
                all_goals (refine ⟨?_, rfl⟩; go_light; congr 1; rw [Bool.eq_iff_iff]; simp only [decide_eq_true_eq, Bool.false_eq_true, false_iff, beq_iff_eq, beq_eq_false_iff_ne, ne_eq, shape_eq, true_iff, Bool.or_eq_true] at *; omega)
            case rest =>
              obtain ⟨rfl, hw⟩ := hcut
              replace hw := hw.symm
              subst hw
              obtain ⟨q1, q2, q3, q4, q5, _⟩ := HRW.out
              have hB := H3.out.2.2.2
              have hu : A.used = 2 := by have := hB.2.1; simpa using this
              have hal := alloc_any (H3.out.1.grew q3) hB.1.fine ((t0 : Int) - 1) q1 q2
              have hok : A.AllocOk ((t0 : Int) - 1) (List.replicate k 0) (List.replicate j ((v4 : Int) - 1)) ↔ ShapeOk ((t0 : Int) - 1) (List.replicate k 0) (List.replicate j ((v4 : Int) - 1)) := by
                refine ⟨fun h => h.1, fun h => ⟨h, fun x hx => .inl ?_, ?_⟩⟩
                · obtain ⟨_, rfl⟩ := List.mem_replicate.1 hx
                  exact atoms_has hB (i := 0) (by omega)
                · rw [hu, hB.2.2.1]; simp [osz]; omega
              have hq1 : ∀ g, (Value.slice (some ⟨g1, 0, none⟩) k k).ownBlock = some g → g ∉ f3 := fun g hg hm => by
                have a1 := q4 g hg
                have a2 := H3.out.1.lt g hm
                omega
              have hq2 : ∀ g, (Value.slice (some ⟨g2, 0, none⟩) j j).ownBlock = some g → g ∉ f3 := fun g hg hm => by
                have a1 := q5 g hg
                have a2 := H3.out.1.lt g hm
                omega
              have HQ := hid (And.intro q1 (And.intro q2 (And.intro hq1 (And.intro hq2 (And.intro hB (And.intro (H3.out.2.1.trans q3 (fun _ _ f => f)) (And.intro H3.out.2.2.1 hok)))))))
              clear q1 q2 q3 q4 q5 hB hok hq1 hq2 HRW H3
              by_cases hS : ShapeOk ((t0 : Int) - 1) (List.replicate k 0) (List.replicate j ((v4 : Int) - 1))
              · simp only [hS, decide_true]
                have HSS := hid hS
                clear hS
                go_wp2_with fail
                refine hal.mono ?_
                intro e w5 hp
                unfold AllocPost at hp
                rw [if_pos (HQ.out.2.2.2.2.2.2.2.2 HSS.out), hu] at hp
                obtain ⟨rfl, f5, p5, k5, _⟩ := hp
                have hfind := find_newest HQ.out.2.2.2.2.1.1 ((t0 : Int) - 1) (List.replicate k 0) (List.replicate j ((v4 : Int) - 1))
                rw [hu] at hfind
                obtain ⟨e1, e2, e3⟩ := ptrs_find hfind
                have H5 := hid (And.intro p5 (And.intro e1 (And.intro e2 (And.intro e3 (And.intro (HQ.out.1.kept k5 HQ.out.2.2.1) (And.intro (HQ.out.2.1.kept k5 HQ.out.2.2.2.1) (grew_step HQ.out.2.2.2.2.2.1 k5 (fun i hi => HQ.out.2.2.2.2.2.2.1 i hi))))))))
                have htt : ((t0 : Int) - 1 == (t0 : Int) - 1) = true := by simp
                clear hal p5 k5 hfind e1 e2 e3 HQ
                go_wp2_with fail
                refine (tagI H5.out.1 H5.out.2.2.2.1).mono ?_
                rintro e w' ⟨rfl, rfl⟩
                go_wp2_with fail
                refine (ptrsI H5.out.1 H5.out.2.1 (by rw [List.length_replicate]; omega)).mono ?_
                rintro e w6 ⟨v6, rfl, o6, g6, _⟩
                have h6 := intsI o6 (H5.out.2.2.2.2.1.kept g6 (fun _ _ f => f)) (by rw [List.length_replicate]; omega)
                have G6 := hid g6
                clear o6 g6
                go_wp2_with fail
                refine h6.mono ?_
                rintro e w7 ⟨rfl, g7⟩
                have G7 := hid (G6.out.trans g7 (fun _ _ f => f))
                clear h6 g7 G6
                go_wp2_with fail
                refine (numsI (H5.out.1.grew G7.out) H5.out.2.2.1 (by rw [List.length_replicate]; omega)).mono ?_
                rintro e w8 ⟨v8, rfl, o8, g8, _⟩
                have h8 := intsI o8 (H5.out.2.2.2.2.2.1.kept (G7.out.trans g8 (fun _ _ f => f)) (fun _ _ f => f)) (by rw [List.length_replicate]; omega)
                have G8 := hid (G7.out.trans g8 (fun _ _ f => f))
                clear o8 g8 G7
                go_wp2_with fail
                refine h8.mono ?_
                rintro e w9 ⟨rfl, g9⟩
                have HW := hid (H5.out.2.2.2.2.2.2.trans (G8.out.trans g9 (fun _ _ f => f)) (fun _ _ f => f))
                clear h8 g9 G8 H5
                go_wp2
                go_ret
                exact ⟨rfl, HW.out.below⟩
              · simp only [hS, decide_false]
                have HSS := hid hS
                clear hS
                go_wp2_with fail
                refine hal.mono ?_
                intro e w5 hp
                unfold AllocPost at hp
                rw [if_neg (fun h => HSS.out (HQ.out.2.2.2.2.2.2.2.1 h))] at hp
                obtain ⟨rfl, d, rfl⟩ := hp
                have HW := hid (HQ.out.2.2.2.2.2.1.drewN d)
                clear hal HQ
                go_wp2
                go_ret
                exact ⟨rfl, HW.out.below⟩

/-! ### THE ROW's STEP: WRITTEN OUT: LEAVE IT -/
set_option maxRecDepth 100000 in
theorem lifted (os : Os) (started : os.Started) (H : Type) (enc : TypeId × Value → H) :
    ReturnsInHanded {} Try.checked os 10 .any (Rows.heapShapesSpec.pre6 enc Try.prog Try.f10 Rows.heapShapesRow.domain false) (Rows.heapShapesSpec.post enc Try.prog Try.f10 false true false false) := by
  refine returnsInHanded_of_change (C := Try.checked) own started (by kernel_rfl) Try.func10
    (ChangeSpec.witness6 (enc := enc) (C := Try.checked) false ⟨#[], #[.int .i64 0, .int .i64 0, .int .i64 0, .int .i64 0], []⟩ 8 (by kernel_rfl) (by kernel_rfl) (by kernel_rfl) (by kernel_rfl)) ?_
  intro W base args ds gs before hval0 hW hcnd _
  have hval : ∀ (j : Nat) t v, Try.f10.params[j]? = some t → args[j]? = some v → Value.okWide Try.prog W .any base t v := hval0
  have hW' := hW
  obtain ⟨p, q, hA0, hV, rfl, hfz, hnd⟩ := hW
  have hA : DataW.TrodAll enc Try.prog W 0 (fun _ => true) true Try.f10.params.toList args.toList ds p := hA0
  rw [Try.params10] at hA hval
  obtain ⟨v0, vs0, d0, ds0, p0, q0, hargs, rfl, rfl, h0, r0⟩ := trodAll_cons hA
  obtain ⟨v1, vs1, d1, ds1, p1, q1, rfl, rfl, rfl, h1, r1⟩ := trodAll_cons r0
  obtain ⟨v2, vs2, d2, ds2, p2, q2, rfl, rfl, rfl, h2, r2⟩ := trodAll_cons r1
  obtain ⟨v3, vs3, d3, ds3, p3, q3, rfl, rfl, rfl, h3, r3⟩ := trodAll_cons r2
  obtain ⟨rfl, rfl, rfl⟩ := trodAll_nil r3
  obtain rfl : args = #[v0, v1, v2, v3] := by cases args; simp_all
  obtain ⟨rfl, rfl⟩ := trodVars_none hV
  obtain ⟨a0, rfl, rfl, rfl, w0⟩ := open_int Try.underlying3 (hval 0 3 v0 rfl rfl) h0
  obtain ⟨a1, rfl, rfl, rfl, w1⟩ := open_int Try.underlying3 (hval 1 3 v1 rfl rfl) h1
  obtain ⟨a2, rfl, rfl, rfl, w2⟩ := open_int Try.underlying3 (hval 2 3 v2 rfl rfl) h2
  obtain ⟨a3, rfl, rfl, rfl, w3⟩ := open_int Try.underlying3 (hval 3 3 v3 rfl rfl) h3
  clear hA0 hval0
  refine (walk a0 a1 a2 a3 w0 w1 w2 w3 W).mono fun e W' ⟨he, bel⟩ => ?_
  subst he
  exact ⟨_, rfl, _, _, _, [], _, [], hW', trodAll_mk1 (shut_bool Try.underlying4 _), (trodAll_cons_mk (shut_int Try.underlying3 w0) (trodAll_cons_mk (shut_int Try.underlying3 w1) (trodAll_cons_mk (shut_int Try.underlying3 w2) (trodAll_cons_mk (shut_int Try.underlying3 w3) trodAll_mk0)))), rfl, bel.frame _, fun h => by cases h⟩

theorem over : Rows.heapShapesRow.holds Try.pinned (OpenSpec.ofChange Rows.heapShapesSpec) :=
  OpenClaim.holds_of_wide 10 Try.f10 rfl rfl rfl rfl rfl rfl rfl ⟨rfl, rfl, rfl, rfl, rfl⟩ rfl rfl rfl rfl rfl (by kernel_rfl) Try.func10 (by kernel_rfl)
    (of_decide_eq_true (by kernel_rfl)) (by unfold Func.isWrapper; first | (rw [if_pos (by decide +kernel)]; kernel_rfl) | (rw [if_neg (by decide +kernel)]; exact ⟨rfl, rfl⟩))
    (fun os started H enc _ => lifted os started H enc)

/-- the statement -/
theorem proved : Rows.HeapShapesSaid :=
  over
end Go.Proofs.Ytjhdnbediipibaa.heapShapes

namespace Go.Proofs.Ytjhdnbediipibaa
theorem heapShapes_holds : Rows.HeapShapesSaid := heapShapes.proved
#print axioms heapShapes_holds
end Go.Proofs.Ytjhdnbediipibaa
