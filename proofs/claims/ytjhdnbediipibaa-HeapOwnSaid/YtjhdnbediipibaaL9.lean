/-
  Rows that were handed in, or told, may be changed and the heap is not: 'thunk/thunklaw11.HeapOwn' returns true, for every input.
  No condition beyond the given row's own.
-/
import Derived.Test.YtjhdnbediipibaaK6
import Derived.Test.YtjhdnbediipibaaRows
import Derived.WalkKit
import Derived.ProofKit
import Derived.OpenShut
import Derived.ShutString
import Derived.ChangeOld
import Derived.Below
namespace Go.Proofs.Ytjhdnbediipibaa.heapOwn
open Go.ChangeShapes Go.WideShapes Go.ChangeAt Go.RowKit
open Go.ChangeMaps (open_string shut_string)
set_option linter.unusedVariables false      -- a walk need not use every 'w<i>' (that an integer argument fits its kind)

theorem own : ownKnob Try.prog.godebug = none := by kernel_rfl
theorem laidOut : laidOutB Try.prog = true := by kernel_rfl

/-! ### STEP 1: THE WALK: the Go text returns true. 'Grown w w'': the world has at most new blocks (Derived/RowKit3.lean). Part the cases AHEAD of 'go_enter' where a test parts the walk; take each callee by a contract of your own. -/
/-! ### STEP 1: THE WALK -/
def own3 (t : Tmp) : Nat := if t = 50 ∨ t = 12 then 1 else if t = 53 ∨ t = 13 then 2 else if t = 57 ∨ t = 14 then 3 else 0
set_option maxHeartbeats 4000000 in
set_option maxRecDepth 100000 in
theorem walk (a0 : Int) (a1 : Int) (w0 : (Lit.int .i64 a0).wf = true) (w1 : (Lit.int .i64 a1).wf = true) (w : World) :
    Calls Try.prog 11 #[.int .i64 a0, .int .i64 a1] w fun e w' => e = .returned (.bool true) ∧ Below w.heap.size w w' := by
  clear w0 w1
  have hkw := known11_any w
  go_enter Try.func11, Try.ntmps11
  go_wp2_with fail
  refine hkw.mono ?_
  rintro e w1 ⟨rfl, g1⟩
  have HG := hid g1
  clear g1 hkw
  go_wp2_with fail
  refine (new_any _ _).mono ?_
  rintro e w2 ⟨hb, f1, rfl, p1, g2, b2⟩
  have H2 := hid (And.intro p1 (And.intro (HG.out.trans g2 (fun _ _ f => f)) (fun b hb => Nat.le_trans HG.out.size (b2 b hb) : ∀ b ∈ f1, w.heap.size ≤ b)))
  clear p1 g2 b2 HG
  go_wp2_with fail
  have hA := atoms_zero 100 (by omega) (by omega)
  refine (alloc_yes H2.out.1 hA.1 7 (Ow.nil _) (Ow.nil _) (atoms_ok hA (by omega))).mono ?_
  intro e w3 hp
  obtain ⟨rfl, f3, p3', g3, b3, _⟩ := rel_made (u := 0) rfl H2.out.2.1 H2.out.2.2 hp
  have hB := atoms_add hA (by omega)
  generalize (⟨[], 0, 100⟩ : AH).add 7 [] [] = A at *
  have H3 := hid (And.intro p3' (And.intro g3 (And.intro b3 hB)))
  clear hA hB hp p3' g3 b3 H2
  go_wp2_with fail
  obtain ⟨m, hm⟩ : ∃ m, wrap64 (a0 + 1) = m := ⟨_, rfl⟩
  rw [hm]
  have HM := hid hm
  clear hm
  obtain ⟨r1, r2, r3, r4⟩ := H3.out
  have hu : A.used = 2 := by have := r4.2.1; simpa using this
  have gN := Grew.alloc w3 (.cells #[.int .i64 a0, .int .i64 m] 3)
  have gP := Grew.alloc (w3.alloc (.cells #[.int .i64 a0, .int .i64 m] 3)) (.cells #[Kv 0, Kv 0] 3)
  have oN := (Ow.two w3 a0 m).kept gP (fun _ _ f => f)
  have oP := Ow.two (w3.alloc (.cells #[.int .i64 a0, .int .i64 m] 3)) 0 0
  rw [World.size_alloc] at oP
  have ok : A.AllocOk 3 [0, 0] [a0, m] := ⟨⟨by decide, by decide, by simp, by simp, fun e => by simp at e, fun e => by simp at e, fun e => by simp at e⟩, fun y hy => .inl (by simp at hy; subst hy; exact atoms_has r4 (i := 0) (by omega)), by rw [hu, r4.2.2.1]; simp [osz]; omega⟩
  refine (alloc_yes ((r1.grew gN).grew gP) r4.1 3 oP oN ok).mono ?_
  intro e w4 hp
  obtain ⟨rfl, f4, p4, g4, b4, fr4, bb4⟩ := rel_made hu (r2.trans (gN.trans gP (fun _ _ f => f)) (fun _ _ f => f)) r3 hp
  have hlt := r1.lt
  have n1 : w3.heap.size ∉ f3 := fun hm => by have := hlt _ hm; omega
  have n2 : w3.heap.size + 1 ∉ f3 := fun hm => by have := hlt _ hm; omega
  have n3 : w3.heap.size ∉ f4 := fun hm => by
    rcases bb4 _ hm with e | e
    · exact n1 e
    · simp at e; omega
  have n4 : w3.heap.size + 1 ∉ f4 := fun hm => by
    rcases bb4 _ hm with e | e
    · exact n2 e
    · simp at e; omega
  have oN4 := oN.kept fr4 (fun g hg hm => by simp [Value.ownBlock] at hg; subst hg; exact n1 hm)
  have oP4 := oP.kept fr4 (fun g hg hm => by simp [Value.ownBlock] at hg; subst hg; exact n2 hm)
  have hWF := WF_add r4.1 ok
  have HK := hid (show (A.add 3 [0, 0] [a0, m]).keys = [0, 2] from by unfold AH.keys AH.add; rw [List.map_append]; show A.keys ++ [A.used] = _; rw [r4.2.2.2, hu]; rfl)
  have hfind := find_newest r4.1 3 [0, 0] [a0, m]
  rw [hu] at hfind
  have hsz := r2.size
  have hsz4 := g4.size
  obtain ⟨q1, q2⟩ : w4.cell? ⟨w3.heap.size, 0, none⟩ = some (Kv a0) ∧ w4.frozen? ⟨w3.heap.size, 0, none⟩ = false := by
    obtain ⟨g, cap, he, _, _, _, hc⟩ := oN4.at (by simp)
    cases he; exact hc 0 (by simp)
  obtain ⟨q3, q4⟩ : w4.cell? ⟨w3.heap.size + 1, 1, none⟩ = some (Kv 0) ∧ w4.frozen? ⟨w3.heap.size + 1, 1, none⟩ = false := by
    obtain ⟨g, cap, he, _, _, _, hc⟩ := oP4.at (by simp)
    cases he; exact hc 1 (by simp)
  have HP4 := hid (And.intro p4 (And.intro n3 (And.intro n4 (And.intro hWF (And.intro hfind g4)))))
  clear oN4 oP4 oN oP gN gP p4 n3 n4 n1 n2 hWF hfind g4 b4 fr4 bb4 r1 r2 r3 r4 hlt hp ok hu H3
  go_wp2
  have hkeys : (A.add 3 [0, 0] [a0, m]).keys = [0, 2] := HK.out
  generalize A.add 3 [0, 0] [a0, m] = B at *
  clear q1 q2 q3 q4
  obtain ⟨w5, hw5⟩ : ∃ w5, (w4.setCell { block := w3.heap.size, off := 0 } (Value.int IntKind.i64 a1)).setCell { block := w3.heap.size + 1, off := 1 } (Value.int IntKind.i64 a1) = w5 := ⟨_, rfl⟩
  have f5 : Fr (fun b => b = w3.heap.size ∨ b = w3.heap.size + 1) w4 w5 := by
    subst hw5
    exact ((Fr.refl _ w4).setCell (p := ⟨w3.heap.size, 0, none⟩) (fun _ => .inl rfl) _).setCell (p := ⟨w3.heap.size + 1, 1, none⟩) (fun _ => .inr rfl) _
  rw [hw5]
  have H5 := hid (And.intro (HP4.out.1.kept f5 (fun b hb e => by rcases e with rfl | rfl; exact HP4.out.2.1 hb; exact HP4.out.2.2.1 hb)) (And.intro HP4.out.2.2.2.1 (And.intro HP4.out.2.2.2.2.1 (And.intro hkeys (HP4.out.2.2.2.2.2.trans f5 (fun i hi e => by rcases e with rfl | rfl <;> omega))))))
  clear HP4 HK hw5 f5 hkeys hsz hsz4
  refine wp_region_factsI 13 (IG 128 own3) Grew [(48, Ex (.pointer (some ⟨hb, 0, none⟩))), (49, Ex (Kv 2)), (50, FMine w5.heap.size [0, 0]), (51, Ex (.pointer (some ⟨hb, 0, none⟩))), (52, Ex (Kv 2)), (53, FMine w5.heap.size [a0, m]), (54, Ex (.pointer (some ⟨hb, 0, none⟩))), (55, Ex (.pointer (some ⟨hb, 0, none⟩))), (56, Ex (.pointer (some ⟨hb, 0, none⟩))), (57, FMine w5.heap.size [0, 2]), (12, FMine w5.heap.size [0, 0]), (13, FMine w5.heap.size [a0, m]), (14, FMine w5.heap.size [0, 2])] (by kernel_rfl) (by kernel_rfl) (by rfl) (by rfl)
    (fun a => Fr.refl _ a) (fun a b c h k => h.trans k (fun _ _ f => f)) (Fr.refl _ _).drew
    (Stays.all ⟨Ex.stays _, Ex.stays _, FMine.stays _ _, Ex.stays _, Ex.stays _, FMine.stays _ _, Ex.stays _, Ex.stays _, Ex.stays _, FMine.stays _ _, FMine.stays _ _, FMine.stays _ _, FMine.stays _ _, trivial⟩) ?_ ?_ ?_
  · go_light
    refine OpGoalsI.cons ?_ (OpGoalsI.cons ?_ (OpGoalsI.cons ?_ (OpGoalsI.cons ?_ (OpGoalsI.cons ?_ (OpGoalsI.cons ?_ (OpGoalsI.cons ?_ (OpGoalsI.cons ?_ (OpGoalsI.cons ?_ (OpGoalsI.cons ?_ (OpGoalsI.cons ?_ (OpGoalsI.cons ?_ (OpGoalsI.cons ?_ OpGoalsI.none))))))))))))
    all_goals (intro a' w' hS hI hR; simp [Rd, Op.operands, Call.operands, Fk, Ex] at hR)
    all_goals (show Yields _ _ _ _ _)
    all_goals (have hIo := fun d v (h1 : own3 d = 0) => hI.other (Fr.refl _ w') (d := d) v h1)
    all_goals try (simp [Yields, execOp, Act.eval, hR, go_sem, Fk, Ex, Fr.refl]; exact hIo _ _ (by decide))
    · simp [Yields, Act.eval, hR, go_sem, Fk, Ex]
      refine (ptrsI (H5.out.1.grew hS) (ptrs_find H5.out.2.2.1).1 (by simp)).mono ?_
      rintro e w2 ⟨v, rfl, h1, h2, h3⟩
      exact ⟨v, rfl, FMine.made h1 h3 hS.size, h2, hI.new h2 (by decide) (fun g hg => ⟨h3 g hg, h1.lt hg⟩)⟩
    · simp [Yields, Act.eval, hR, go_sem, Fk, Ex]
      refine (numsI (H5.out.1.grew hS) (ptrs_find H5.out.2.2.1).2.1 (by simp)).mono ?_
      rintro e w2 ⟨v, rfl, h1, h2, h3⟩
      exact ⟨v, rfl, FMine.made h1 h3 hS.size, h2, hI.new h2 (by decide) (fun g hg => ⟨h3 g hg, h1.lt hg⟩)⟩
    · simp [Yields, Act.eval, hR, go_sem, Fk, Ex]
      refine (objsI (H5.out.1.grew hS) H5.out.2.1 H5.out.2.2.2.1).mono ?_
      rintro e w2 ⟨v, rfl, h1, h2, h3⟩
      exact ⟨v, rfl, FMine.made h1 h3 hS.size, h2, hI.new h2 (by decide) (fun g hg => ⟨h3 g hg, h1.lt hg⟩)⟩
    all_goals (have hIc := hI.copy (d := 12) (c := 50) (by decide) (by decide))
    all_goals (have hId := hI.copy (d := 13) (c := 53) (by decide) (by decide))
    all_goals (have hIe := hI.copy (d := 14) (c := 57) (by decide) (by decide))
    all_goals (rw [Array.getD_eq_getD_getElem?] at hIc hId hIe)
    all_goals (simp [Yields, execOp, Act.eval, go_sem, Fk, Fr.refl])
    · exact ⟨hR, hIc⟩
    · exact ⟨hR, hId⟩
    · exact ⟨hR, hIe⟩
  · refine IG.start rfl ?_
    intro s hs
    unfold own3 at hs
    by_cases h1 : s = 50 ∨ s = 12
    · rcases h1 with rfl | rfl <;> rfl
    by_cases h2 : s = 53 ∨ s = 13
    · rcases h2 with rfl | rfl <;> rfl
    by_cases h3 : s = 57 ∨ s = 14
    · rcases h3 with rfl | rfl <;> rfl
    simp [h1, h2, h3] at hs
  · intro w6 hS
    rintro _ rfl _ rfl v50 _ _ rfl _ rfl v53 _ _ rfl _ rfl _ rfl v57 _ v12 f12 v13 f13 v14 f14
    refine Then.nil (K := fun a w => IG 128 own3 a w → _) ?_
    intro hI
    obtain ⟨s1, s2, s3⟩ := hI.last3 (d1 := 12) (d2 := 13) (d3 := 14) (by decide) (by decide) (by decide) (by decide) (by decide) (by decide) (by decide) (by decide) (by decide)
    clear hI
    obtain ⟨_, o1, b1⟩ := f12
    obtain ⟨_, o2, b2⟩ := f13
    obtain ⟨_, o3, b3⟩ := f14
    obtain ⟨x1, c1, e1, m1, m1', l1, k1⟩ := o1.at (by simp)
    obtain ⟨x2, c2, e2, m2, m2', l2, k2⟩ := o2.at (by simp)
    obtain ⟨x3, c3, e3, m3, m3', l3, k3⟩ := o3.at (by simp)
    subst e1 e2 e3
    replace s1 := s1.2.2 x1 rfl
    replace s2 := s2.2.2 x1 rfl
    replace s3 := s3.2.2 x2 rfl
    replace b1 := b1 x1 rfl
    replace b2 := b2 x2 rfl
    replace b3 := b3 x3 rfl
    have k10 := k1 0 (by simp)
    have k11 := k1 1 (by simp)
    have k20 := k2 0 (by simp)
    have k21 := k2 1 (by simp)
    have k30 := k3 0 (by simp)
    have k31 := k3 1 (by simp)
    simp only [List.length_cons, List.length_nil, List.getElem_cons_zero, List.getElem_cons_succ, Nat.zero_add, Nat.reduceAdd, Value.ownBlock, ne_eq, Option.some.injEq] at k10 k11 k20 k21 k30 k31 s1 s2 s3 m1 m2 m3 ⊢
    obtain ⟨k10, z10⟩ := k10
    obtain ⟨k11, z11⟩ := k11
    obtain ⟨k20, z20⟩ := k20
    obtain ⟨k21, z21⟩ := k21
    obtain ⟨k30, z30⟩ := k30
    obtain ⟨k31, z31⟩ := k31
    have s1' : ¬ x1 = x2 := fun e => s1 e.symm
    have s2' : ¬ x1 = x3 := fun e => s2 e.symm
    have s3' : ¬ x2 = x3 := fun e => s3 e.symm
    have H6 := hid (And.intro (H5.out.1.grew hS) (H5.out.2.2.2.2.trans hS (fun _ _ f => f)))
    have haa : (a0 != a0) = false := by simp
    clear k1 k2 k3 o1 o2 o3
    go_wp2
    obtain ⟨w7, hw7⟩ : ∃ w7, ((w6.setCell { block := x1, off := 0 } (Value.int IntKind.i64 a1)).setCell { block := x2, off := 1 } (Value.int IntKind.i64 a1)).setCell { block := x3, off := 0 } (Value.int IntKind.i64 a1) = w7 := ⟨_, rfl⟩
    have f7 : Fr (fun b => w5.heap.size ≤ b) w6 w7 := by
      subst hw7
      exact (((Fr.refl _ w6).setCell (p := ⟨x1, 0, none⟩) (fun _ => b1) _).setCell (p := ⟨x2, 1, none⟩) (fun _ => b2) _).setCell (p := ⟨x3, 0, none⟩) (fun _ => b3) _
    rw [hw7]
    have H7 := hid (And.intro (H6.out.1.kept f7 (fun b hb e => by have := H5.out.1.lt b hb; omega)) (H6.out.2.trans f7 (fun i hi e => by have := H5.out.2.2.2.2.size; omega)))
    clear H6 hw7 f7 k10 k11 k20 k21 k30 k31 z10 z11 z20 z21 z30 z31 s1 s2 s3 s1' s2' s3' b1 b2 b3 l1 l2 l3 m1 m2 m3 m1' m2' m3' hS haa
    refine wp_region_facts 13 Grew [(98, Ex (.pointer (some ⟨hb, 0, none⟩))), (99, Ex (Kv 2)), (100, FMine 0 [0, 0]), (101, Ex (.pointer (some ⟨hb, 0, none⟩))), (102, Ex (Kv 2)), (103, FMine 0 [a0, m]), (104, Ex (.pointer (some ⟨hb, 0, none⟩))), (105, Ex (.pointer (some ⟨hb, 0, none⟩))), (106, Ex (.pointer (some ⟨hb, 0, none⟩))), (107, FMine 0 [0, 2]), (15, FMine 0 [0, 0]), (16, FMine 0 [a0, m]), (17, FMine 0 [0, 2])] (by kernel_rfl) (by kernel_rfl) (by rfl) (by rfl)
      (fun a => Fr.refl _ a) (fun a b c h k => h.trans k (fun _ _ f => f)) (Fr.refl _ _).drew
      (Stays.all ⟨Ex.stays _, Ex.stays _, FMine.stays _ _, Ex.stays _, Ex.stays _, FMine.stays _ _, Ex.stays _, Ex.stays _, Ex.stays _, FMine.stays _ _, FMine.stays _ _, FMine.stays _ _, FMine.stays _ _, trivial⟩) ?_ ?_
    · go_light
      refine OpGoals.cons ?_ (OpGoals.cons ?_ (OpGoals.cons ?_ (OpGoals.cons ?_ (OpGoals.cons ?_ (OpGoals.cons ?_ (OpGoals.cons ?_ (OpGoals.cons ?_ (OpGoals.cons ?_ (OpGoals.cons ?_ (OpGoals.cons ?_ (OpGoals.cons ?_ (OpGoals.cons ?_ OpGoals.none))))))))))))
      all_goals (intro a' w' hS hR; simp [Rd, Op.operands, Call.operands, Fk, Ex] at hR)
      all_goals (show Yields _ _ _ _ _)
      all_goals try (simp [Yields, execOp, Act.eval, hR, go_sem, Fk, Ex, Fr.refl]; done)
      · simp [Yields, Act.eval, hR, go_sem, Fk, Ex]
        refine (ptrsI (H7.out.1.grew hS) (ptrs_find H5.out.2.2.1).1 (by simp)).mono ?_
        rintro e w2 ⟨v, rfl, h1, h2, h3⟩
        exact ⟨v, rfl, FMine.made h1 h3 (Nat.zero_le _), h2⟩
      · simp [Yields, Act.eval, hR, go_sem, Fk, Ex]
        refine (numsI (H7.out.1.grew hS) (ptrs_find H5.out.2.2.1).2.1 (by simp)).mono ?_
        rintro e w2 ⟨v, rfl, h1, h2, h3⟩
        exact ⟨v, rfl, FMine.made h1 h3 (Nat.zero_le _), h2⟩
      · simp [Yields, Act.eval, hR, go_sem, Fk, Ex]
        refine (objsI (H7.out.1.grew hS) H5.out.2.1 H5.out.2.2.2.1).mono ?_
        rintro e w2 ⟨v, rfl, h1, h2, h3⟩
        exact ⟨v, rfl, FMine.made h1 h3 (Nat.zero_le _), h2⟩
      all_goals (simp [Yields, execOp, Act.eval, go_sem, Fk, Fr.refl]; exact hR)
    · intro w8 hS
      rintro _ rfl _ rfl v100 _ _ rfl _ rfl v103 _ _ rfl _ rfl _ rfl v107 _ v15 ⟨_, o1, _⟩ v16 ⟨_, o2, _⟩ v17 ⟨_, o3, _⟩
      refine Then.nil ?_
      have H8 := hid (And.intro o1 (And.intro o2 (And.intro o3 (H7.out.2.trans hS (fun _ _ f => f)))))
      clear o1 o2 o3 H7 H5
      have hm := HM.out
      clear HM
      go_wp2_with fail
      refine (intsI (H8.out.1.kept (Grew.alloc w8 _) (fun _ _ f => f)) (Ow.two w8 0 0) (by simp)).mono ?_
      rintro e w9 ⟨rfl, g9⟩
      have H9 := hid (And.intro ((Grew.alloc w8 _).trans g9 (fun _ _ f => f) : Grew w8 w9) H8.out)
      clear H8 g9
      go_wp2_with fail
      refine (intsI ((H9.out.2.2.1.kept H9.out.1 (fun _ _ f => f)).kept (Grew.alloc w9 _) (fun _ _ f => f)) (Ow.two w9 a0 m) (by simp)).mono ?_
      rintro e w10 ⟨rfl, g10⟩
      have H10 := hid (And.intro (H9.out.1.trans ((Grew.alloc w9 _).trans g10 (fun _ _ f => f)) (fun _ _ f => f) : Grew w8 w10) H9.out.2)
      clear H9 g10
      go_wp2_with fail
      refine (intsI ((H10.out.2.2.2.1.kept H10.out.1 (fun _ _ f => f)).kept (Grew.alloc w10 _) (fun _ _ f => f)) (Ow.two w10 0 2) (by simp)).mono ?_
      rintro e w11 ⟨rfl, g11⟩
      have H11 := hid (H10.out.2.2.2.2.trans (H10.out.1.trans ((Grew.alloc w10 _).trans g11 (fun _ _ f => f)) (fun _ _ f => f)) (fun _ _ f => f) : Grew w w11)
      clear H10 g11
      go_wp2
      go_ret
      exact ⟨rfl, H11.out.below⟩

/-! ### THE ROW's STEP: WRITTEN OUT: LEAVE IT -/
set_option maxRecDepth 100000 in
theorem lifted (os : Os) (started : os.Started) (H : Type) (enc : TypeId × Value → H) :
    ReturnsInHanded {} Try.checked os 11 .any (Rows.heapOwnSpec.pre6 enc Try.prog Try.f11 Rows.heapOwnRow.domain false) (Rows.heapOwnSpec.post enc Try.prog Try.f11 false true false false) := by
  refine returnsInHanded_of_change (C := Try.checked) own started (by kernel_rfl) Try.func11
    (ChangeSpec.witness6 (enc := enc) (C := Try.checked) false ⟨#[], #[.int .i64 0, .int .i64 0], []⟩ 8 (by kernel_rfl) (by kernel_rfl) (by kernel_rfl) (by kernel_rfl)) ?_
  intro W base args ds gs before hval0 hW hcnd _
  have hval : ∀ (j : Nat) t v, Try.f11.params[j]? = some t → args[j]? = some v → Value.okWide Try.prog W .any base t v := hval0
  have hW' := hW
  obtain ⟨p, q, hA0, hV, rfl, hfz, hnd⟩ := hW
  have hA : DataW.TrodAll enc Try.prog W 0 (fun _ => true) true Try.f11.params.toList args.toList ds p := hA0
  rw [Try.params11] at hA hval
  obtain ⟨v0, vs0, d0, ds0, p0, q0, hargs, rfl, rfl, h0, r0⟩ := trodAll_cons hA
  obtain ⟨v1, vs1, d1, ds1, p1, q1, rfl, rfl, rfl, h1, r1⟩ := trodAll_cons r0
  obtain ⟨rfl, rfl, rfl⟩ := trodAll_nil r1
  obtain rfl : args = #[v0, v1] := by cases args; simp_all
  obtain ⟨rfl, rfl⟩ := trodVars_none hV
  obtain ⟨a0, rfl, rfl, rfl, w0⟩ := open_int Try.underlying3 (hval 0 3 v0 rfl rfl) h0
  obtain ⟨a1, rfl, rfl, rfl, w1⟩ := open_int Try.underlying3 (hval 1 3 v1 rfl rfl) h1
  clear hA0 hval0
  refine (walk a0 a1 w0 w1 W).mono fun e W' ⟨he, bel⟩ => ?_
  subst he
  exact ⟨_, rfl, _, _, _, [], _, [], hW', trodAll_mk1 (shut_bool Try.underlying4 _), (trodAll_cons_mk (shut_int Try.underlying3 w0) (trodAll_cons_mk (shut_int Try.underlying3 w1) trodAll_mk0)), rfl, bel.frame _, fun h => by cases h⟩

theorem over : Rows.heapOwnRow.holds Try.pinned (OpenSpec.ofChange Rows.heapOwnSpec) :=
  OpenClaim.holds_of_wide 11 Try.f11 rfl rfl rfl rfl rfl rfl rfl ⟨rfl, rfl, rfl, rfl, rfl⟩ rfl rfl rfl rfl rfl (by kernel_rfl) Try.func11 (by kernel_rfl)
    (of_decide_eq_true (by kernel_rfl)) (by unfold Func.isWrapper; first | (rw [if_pos (by decide +kernel)]; kernel_rfl) | (rw [if_neg (by decide +kernel)]; exact ⟨rfl, rfl⟩))
    (fun os started H enc _ => lifted os started H enc)

/-- the statement -/
theorem proved : Rows.HeapOwnSaid :=
  over
end Go.Proofs.Ytjhdnbediipibaa.heapOwn

namespace Go.Proofs.Ytjhdnbediipibaa
theorem heapOwn_holds : Rows.HeapOwnSaid := heapOwn.proved
#print axioms heapOwn_holds
end Go.Proofs.Ytjhdnbediipibaa
