/-
  Collected again, by the same roots, a heap is as it was: 'thunk/thunklaw12.GcAgain' returns true, for every input.
  No condition beyond the given row's own.
-/
import Derived.Test.YtjhdnbediipibaaR3
import Derived.Test.YtjhdnbediipibaaRows
import Derived.WalkKit
import Derived.ProofKit
import Derived.OpenShut
import Derived.ShutString
import Derived.ChangeOld
import Derived.Below
namespace Go.Proofs.Ytjhdnbediipibaa.gcAgain
open Go.ChangeShapes Go.WideShapes Go.ChangeAt Go.RowKit
open Go.ChangeMaps (open_string shut_string)
set_option linter.unusedVariables false

theorem own : ownKnob Try.prog.godebug = none := by kernel_rfl
theorem laidOut : laidOutB Try.prog = true := by kernel_rfl

/-- WHAT THE WALK IS TOLD OF A SLICE OF INTEGERS THAT CAME IN: it is nil; or it leads to a row of 'cap' cells, the numbers 'zs' (the first 'len' are its elements, the rest its spare room), each fitting its kind. -/
def IsRow (k : IntKind) (w : World) (a : Option Addr) (len cap : Nat) (zs : List Int) : Prop :=
  (a = none ∧ len = 0 ∧ cap = 0 ∧ zs = []) ∨
  ∃ x, a = some x ∧ len ≤ cap ∧ cap ≤ maxLen ∧ zs.length = cap ∧ (∀ i, i < zs.length → w.cell? (x.add i) = some (.int k (zs.getD i 0))) ∧ ∀ n ∈ zs, (Lit.int k n).wf = true

/-! ### STEP 1: THE WALK: the Go text returns true, AND WRITES NOTHING THAT WAS THERE: 'Below w.heap.size w w'' (Derived/Below.lean: '.refl', '.alloc', '.drew', '.setCell' at a new block, '.trans'). Open each 'IsRow' by 'rcases' AHEAD of 'go_enter'; part every test ahead of the walk. -/
/-! ### STEP 1: THE WALK -/
set_option maxHeartbeats 4000000 in
set_option maxRecDepth 100000 in
theorem walk (a0 : Option Addr) (len0 cap0 : Nat) (z0 : List Int) (a1 : Option Addr) (len1 cap1 : Nat) (z1 : List Int) (w : World) (w0 : IsRow .i64 w a0 len0 cap0 z0) (w1 : IsRow .i64 w a1 len1 cap1 z1) :
    Calls Try.prog 19 #[.slice a0 len0 cap0, .slice a1 len1 cap1] w fun e w' => e = .returned (.bool true) ∧ Below w.heap.size w w' := by
  have hr0 : RowIn w a0 len0 cap0 := by
    rcases w0 with ⟨_, h, _⟩ | ⟨x, h1, h2, h3, h4, h5, _⟩
    · exact ⟨by simp [h], fun i hi => by omega⟩
    · exact ⟨by omega, fun i hi => ⟨x, _, h1, h2, h5 i (by omega)⟩⟩
  have hr1 : RowIn w a1 len1 cap1 := by
    rcases w1 with ⟨_, h, _⟩ | ⟨x, h1, h2, h3, h4, h5, _⟩
    · exact ⟨by simp [h], fun i hi => by omega⟩
    · exact ⟨by omega, fun i hi => ⟨x, _, h1, h2, h5 i (by omega)⟩⟩
  have HR := hid (And.intro hr0 hr1)
  clear w0 w1 hr0 hr1
  have hkw := known12_any w
  go_enter Try.func19, Try.ntmps19
  go_wp2_with fail
  refine hkw.mono ?_
  rintro e w1 ⟨rfl, g1⟩
  have HG1 := hid g1
  clear g1 hkw
  go_wp2_with fail
  refine (both_any (HR.out.1.kept HG1.out)).mono ?_
  rintro e w2 ⟨hb, xb, rfl, A, fp, hW, hWo, hT, g2, b2⟩
  obtain ⟨f1, f2, rfl, hp, hx, hdis⟩ := hT
  have HG2 := hid (HG1.out.trans g2 (fun _ _ f => f))
  have HP := hid (And.intro hp (And.intro hx hW))
  clear hp hx hW hWo hdis g2 b2 HG1
  go_wp2_with fail
  refine (roots_any HP.out.2.1 HP.out.2.2.fine.few (HR.out.2.kept HG2.out)).mono ?_
  rintro e w3 ⟨l, hl6, hlh, v, rfl, hv, g3, _⟩
  obtain ⟨va, vc, rfl, _, _⟩ := hv.shape
  have HV := hid (And.intro hlh (And.intro hv (And.intro g3 (HG2.out.trans g3 (fun _ _ f => f)))))
  clear hlh hv g3 HG2
  go_wp2_with fail
  refine (collect_ok (d := 0) HP.out.2.2 (by omega) (HP.out.1.grew HV.out.2.2.1) HV.out.2.1 (by omega) HV.out.1).mono ?_
  rintro e w4 ⟨ob, f4, tv, rfl, p4, t4, g4, b4, c4⟩
  have hWB := WF_gcd HP.out.2.2 0 HV.out.1
  obtain ⟨hth, htold, hkeys, hall⟩ := again_law HP.out.2.2 HV.out.1
  have hle1 := (deeper_law HP.out.2.2 0 HV.out.1).2
  have htl : (A.told 0 l).length ≤ 6 := by unfold AH.told; rw [CS.all_len]; exact hl6
  obtain ⟨ta, tc, rfl, _, _⟩ := t4.shape
  generalize A.told 0 l = T at *
  generalize A.gcd 0 (A.final 0 l) = B at *
  have hle2 := (deeper_law hWB 0 hth).2
  have H4 := hid (And.intro p4 (And.intro t4 (And.intro g4 (And.intro hWB hth))))
  clear p4 t4 g4 b4 c4 hWB hth
  go_wp2_with fail
  refine (collect_ok (d := 0) H4.out.2.2.2.1 (by omega) H4.out.1 H4.out.2.1 (by omega) H4.out.2.2.2.2).mono ?_
  rintro e w5 ⟨qb, f5, sv, rfl, p5, t5, g5, b5, c5⟩
  have hWC := WF_gcd H4.out.2.2.2.1 0 H4.out.2.2.2.2
  rw [htold] at t5
  obtain ⟨sa, sc, rfl, _, _⟩ := t5.shape
  generalize B.gcd 0 (B.final 0 T) = C at *
  have H5 := hid (And.intro p5 (And.intro t5 (And.intro g5 hWC)))
  have HL := hid (And.intro hkeys hall)
  clear p5 t5 g5 b5 c5 hWC hkeys hall htold
  obtain ⟨ub, hub⟩ : ∃ u, C.used = u := ⟨_, rfl⟩
  obtain ⟨ua, hua⟩ : ∃ u, B.used = u := ⟨_, rfl⟩
  obtain ⟨uh, huh⟩ : ∃ u, A.used = u := ⟨_, rfl⟩
  have hn1 : ¬ ua < ub := by omega
  have hn2 : ¬ uh < ua := by omega
  clear hle1 hle2
  go_wp2
  refine wp_region_facts 34 Grew [(46, Ex (.bool true)), (47, Ex (.bool false)), (48, Ex (.bool false)), (49, Ex (.pointer (some ⟨qb, 0, none⟩))), (50, Ex (.bool false)), (51, Ex (.bool false)), (52, Ex (.bool false)), (53, Ex (.slice sa T.length sc)), (54, Ex (.slice ta T.length tc)), (55, Ex (.bool true)), (56, Ex (.bool false)), (57, Ex (.bool false)), (58, Ex (.bool false)), (59, Ex (.pointer (some ⟨qb, 0, none⟩))), (60, Ex (.pointer (some ⟨qb, 0, none⟩))), (61, Ex (.pointer (some ⟨qb, 0, none⟩))), (62, Ex (Kv ub)), (63, Ex (.pointer (some ⟨ob, 0, none⟩))), (64, Ex (.pointer (some ⟨ob, 0, none⟩))), (65, Ex (.pointer (some ⟨ob, 0, none⟩))), (66, Ex (Kv ua)), (67, Ex (.bool false)), (68, Ex (.bool false)), (69, Ex (.bool false)), (70, Ex (.pointer (some ⟨ob, 0, none⟩))), (71, Ex (.pointer (some ⟨ob, 0, none⟩))), (72, Ex (.pointer (some ⟨ob, 0, none⟩))), (73, Ex (Kv ua)), (74, Ex (.pointer (some ⟨hb, 0, none⟩))), (75, Ex (.pointer (some ⟨hb, 0, none⟩))), (76, Ex (.pointer (some ⟨hb, 0, none⟩))), (77, Ex (Kv uh)), (78, Ex (.bool false)), (79, Ex (.bool false))] (by kernel_rfl) (by kernel_rfl) (by rfl) (by rfl)
    (fun a => Fr.refl _ a) (fun a b c h k => h.trans k (fun _ _ f => f)) (Fr.refl _ _).drew
    (Stays.all ⟨Ex.stays _, Ex.stays _, Ex.stays _, Ex.stays _, Ex.stays _, Ex.stays _, Ex.stays _, Ex.stays _, Ex.stays _, Ex.stays _, Ex.stays _, Ex.stays _, Ex.stays _, Ex.stays _, Ex.stays _, Ex.stays _, Ex.stays _, Ex.stays _, Ex.stays _, Ex.stays _, Ex.stays _, Ex.stays _, Ex.stays _, Ex.stays _, Ex.stays _, Ex.stays _, Ex.stays _, Ex.stays _, Ex.stays _, Ex.stays _, Ex.stays _, Ex.stays _, Ex.stays _, Ex.stays _, trivial⟩) ?_ ?_
  · go_light
    refine OpGoals.cons (OpGoal.plain rfl ?_) (OpGoals.cons (OpGoal.plain rfl ?_) (OpGoals.cons (OpGoal.plain rfl ?_) (OpGoals.cons (OpGoal.guarded (d := 48) (want := false) rfl (fun _ _ h => h) ?_) (OpGoals.cons (OpGoal.guarded (d := 48) (want := false) rfl (fun _ _ h => h) ?_) (OpGoals.cons (OpGoal.plain rfl ?_) (OpGoals.cons (OpGoal.plain rfl ?_) (OpGoals.cons (OpGoal.guarded (d := 52) (want := false) rfl (fun _ _ h => h) ?_) (OpGoals.cons (OpGoal.guarded (d := 52) (want := false) rfl (fun _ _ h => h) ?_) (OpGoals.cons (OpGoal.guarded (d := 52) (want := false) rfl (fun _ _ h => h) ?_) (OpGoals.cons (OpGoal.guarded (d := 52) (want := false) rfl (fun _ _ h => h) ?_) (OpGoals.cons (OpGoal.plain rfl ?_) (OpGoals.cons (OpGoal.plain rfl ?_) (OpGoals.cons (OpGoal.guarded (d := 58) (want := false) rfl (fun _ _ h => h) ?_) (OpGoals.cons (OpGoal.guarded (d := 58) (want := false) rfl (fun _ _ h => h) ?_) (OpGoals.cons (OpGoal.guarded (d := 58) (want := false) rfl (fun _ _ h => h) ?_) (OpGoals.cons (OpGoal.guarded (d := 58) (want := false) rfl (fun _ _ h => h) ?_) (OpGoals.cons (OpGoal.guarded (d := 58) (want := false) rfl (fun _ _ h => h) ?_) (OpGoals.cons (OpGoal.guarded (d := 58) (want := false) rfl (fun _ _ h => h) ?_) (OpGoals.cons (OpGoal.guarded (d := 58) (want := false) rfl (fun _ _ h => h) ?_) (OpGoals.cons (OpGoal.guarded (d := 58) (want := false) rfl (fun _ _ h => h) ?_) (OpGoals.cons (OpGoal.guarded (d := 58) (want := false) rfl (fun _ _ h => h) ?_) (OpGoals.cons (OpGoal.plain rfl ?_) (OpGoals.cons (OpGoal.plain rfl ?_) (OpGoals.cons (OpGoal.guarded (d := 69) (want := false) rfl (fun _ _ h => h) ?_) (OpGoals.cons (OpGoal.guarded (d := 69) (want := false) rfl (fun _ _ h => h) ?_) (OpGoals.cons (OpGoal.guarded (d := 69) (want := false) rfl (fun _ _ h => h) ?_) (OpGoals.cons (OpGoal.guarded (d := 69) (want := false) rfl (fun _ _ h => h) ?_) (OpGoals.cons (OpGoal.guarded (d := 69) (want := false) rfl (fun _ _ h => h) ?_) (OpGoals.cons (OpGoal.guarded (d := 69) (want := false) rfl (fun _ _ h => h) ?_) (OpGoals.cons (OpGoal.guarded (d := 69) (want := false) rfl (fun _ _ h => h) ?_) (OpGoals.cons (OpGoal.guarded (d := 69) (want := false) rfl (fun _ _ h => h) ?_) (OpGoals.cons (OpGoal.guarded (d := 69) (want := false) rfl (fun _ _ h => h) ?_) (OpGoals.cons (OpGoal.plain rfl ?_) OpGoals.none)))))))))))))))))))))))))))))))))
    all_goals (intro a' w' hS hR; simp [Rd, Op.operands, Call.operands, Fk, Ex] at hR)
    all_goals try (simp [Yields, execOp, Act.eval, hR, hn1, hn2, go_sem, Fk, Ex, Fr.refl]; done)
    · simp [Yields, Act.eval, hR, go_sem, Fk, Ex]
      refine (intsI (l := T) (H5.out.2.1.kept hS (fun _ _ f => f)) (H4.out.2.1.kept (H5.out.2.2.1.trans hS (fun _ _ f => f)) (fun _ _ f => f)) (by omega)).mono ?_
      rintro e w2 ⟨rfl, h2⟩
      exact ⟨_, rfl, rfl, h2⟩
    · simp [Yields, Act.eval, hR, go_sem, Fk, Ex]
      refine (usedI (H5.out.1.grew hS) hub).mono ?_
      rintro e w2 ⟨rfl, rfl⟩
      exact ⟨_, rfl, rfl, Fr.refl _ _⟩
    · simp [Yields, Act.eval, hR, go_sem, Fk, Ex]
      refine (usedI ((H4.out.1.grew H5.out.2.2.1).grew hS) hua).mono ?_
      rintro e w2 ⟨rfl, rfl⟩
      exact ⟨_, rfl, rfl, Fr.refl _ _⟩
    · simp [Yields, Act.eval, hR, go_sem, Fk, Ex]
      refine (usedI ((H4.out.1.grew H5.out.2.2.1).grew hS) hua).mono ?_
      rintro e w2 ⟨rfl, rfl⟩
      exact ⟨_, rfl, rfl, Fr.refl _ _⟩
    · simp [Yields, Act.eval, hR, go_sem, Fk, Ex]
      refine (usedI (((HP.out.1.grew HV.out.2.2.1).grew (H4.out.2.2.1.trans H5.out.2.2.1 (fun _ _ f => f))).grew hS) huh).mono ?_
      rintro e w2 ⟨rfl, rfl⟩
      exact ⟨_, rfl, rfl, Fr.refl _ _⟩
  · intro w6 hS
    rintro _ rfl _ rfl _ rfl _ rfl _ rfl _ rfl _ rfl _ rfl _ rfl _ rfl _ rfl _ rfl _ rfl _ rfl _ rfl _ rfl _ rfl _ rfl _ rfl _ rfl _ rfl _ rfl _ rfl _ rfl _ rfl _ rfl _ rfl _ rfl _ rfl _ rfl _ rfl _ rfl _ rfl _ rfl
    refine Then.nil ?_
    have hpo := H4.out.1.grew (H5.out.2.2.1.trans hS (fun _ _ f => f))
    have hpq := H5.out.1.grew hS
    have H6 := hid (And.intro hpo (And.intro hpq (And.intro H4.out.2.2.2.1 (And.intro H5.out.2.2.2 ((((HV.out.2.2.2.trans H4.out.2.2.1 (fun _ _ f => f)).trans H5.out.2.2.1 (fun _ _ f => f)).trans hS (fun _ _ f => f)) : Grew w w6)))))
    clear hpo hpq hS H4 H5 HV HP HR hub hua huh hn1 hn2 hl6 htl
    go_wp2_with fail
    refine (objsI H6.out.1 H6.out.2.2.1 rfl).mono ?_
    rintro e w7 ⟨kv, rfl, hk, gk, _⟩
    obtain ⟨ka, kc, rfl, _, _⟩ := hk.shape
    have H7 := hid (And.intro hk gk)
    clear hk gk
    go_wp2_with fail
    refine (objsI (H6.out.2.1.grew H7.out.2) H6.out.2.2.2.1 HL.out.1).mono ?_
    rintro e w8 ⟨k2, rfl, hk2, gk2, _⟩
    obtain ⟨ka2, kc2, rfl, _, _⟩ := hk2.shape
    have hkl : B.keys.length ≤ 500000 := by have := H6.out.2.2.1.len; unfold AH.keys; rw [List.length_map]; omega
    have hin := intsI hk2 (H7.out.1.kept gk2 (fun _ _ f => f)) (by omega)
    have H8 := hid gk2
    clear hk2 gk2
    go_wp2_with fail
    refine hin.mono ?_
    rintro e w9 ⟨rfl, g9⟩
    have g79 : Grew w7 w9 := H8.out.trans g9 (fun _ _ f => f)
    have g69 : Grew w6 w9 := H7.out.2.trans g79 (fun _ _ f => f)
    have H9 := hid (And.intro (H6.out.1.grew g69) (And.intro (H6.out.2.1.grew g69) (And.intro (H7.out.1.kept g79 (fun _ _ f => f)) (And.intro H6.out.2.2.1 (H6.out.2.2.2.2.trans g69 (fun _ _ f => f))))))
    clear hin g9 g79 g69 H8 H7 H6
    go_wp2
    go_loopw [14] (fun i wr => ∃ j : Nat, j ≤ B.keys.length ∧ i = .int .i64 j ∧ Grew w9 wr) (fun i _ => B.keys.length - (intOf i).toNat)
    case atStart => exact ⟨0, Nat.zero_le _, rfl, Fr.refl _ _⟩
    case round =>
      obtain ⟨j, hj, rfl, hG⟩ := hrel
      have HG := hid hG
      clear hG
      by_cases hj1 : j < B.keys.length
      · obtain ⟨gk, ck, he, hkc, _, _, hcl⟩ := H9.out.2.2.1.at (by omega)
        simp only [Value.slice.injEq] at he
        obtain ⟨rfl, _, rfl⟩ := he
        have hck := HG.out.cell (hcl j hj1).1 (fun f => f)
        have hjc : j < kc := by omega
        have hxh : B.has B.keys[j] := has_iff.2 (List.getElem_mem hj1)
        generalize B.keys[j] = x at *
        obtain ⟨h1, h2, h3⟩ := HL.out.2 x hxh
        obtain ⟨t, ht⟩ : ∃ t, B.tag x = t := ⟨_, rfl⟩
        obtain ⟨ps, hps⟩ : ∃ t, B.ptrs x = t := ⟨_, rfl⟩
        obtain ⟨ns, hns⟩ : ∃ t, B.nums x = t := ⟨_, rfl⟩
        have hp60 := H9.out.2.2.2.1.shaped.ptrs_le x
        have hn60 := H9.out.2.2.2.1.shaped.nums_le x
        rw [ht] at h1
        rw [hps] at h2 hp60
        rw [hns] at h3 hn60
        have HX := hid (And.intro ht (And.intro h1 (And.intro hps (And.intro h2 (And.intro hns h3)))))
        have htt : (t != t) = false := by simp
        clear hcl hxh h1 h2 h3 ht hps hns
        go_wp2
        refine wp_region_facts 45 Grew [(97, Ex (.pointer (some ⟨ob, 0, none⟩))), (98, Ex (.slice (some ⟨gk, 0, none⟩) B.keys.length kc)), (99, Ex (Kv j)), (100, Ex (.pointer (some ⟨gk, j, none⟩))), (101, Ex (Kv x)), (102, Ex (Kv t)), (103, Ex (.pointer (some ⟨qb, 0, none⟩))), (104, Ex (.slice (some ⟨gk, 0, none⟩) B.keys.length kc)), (105, Ex (Kv j)), (106, Ex (.pointer (some ⟨gk, j, none⟩))), (107, Ex (Kv x)), (108, Ex (Kv t)), (109, Ex (.bool false)), (110, Ex (.bool false)), (111, Ex (.pointer (some ⟨ob, 0, none⟩))), (112, Ex (.slice (some ⟨gk, 0, none⟩) B.keys.length kc)), (113, Ex (Kv j)), (114, Ex (.pointer (some ⟨gk, j, none⟩))), (115, Ex (Kv x)), (116, FMine 0 ps), (117, Ex (.pointer (some ⟨qb, 0, none⟩))), (118, Ex (.slice (some ⟨gk, 0, none⟩) B.keys.length kc)), (119, Ex (Kv j)), (120, Ex (.pointer (some ⟨gk, j, none⟩))), (121, Ex (Kv x)), (122, FMine 0 ps), (123, Ex (.bool true)), (124, Ex (.bool false)), (125, Ex (.bool false)), (126, Ex (.bool false)), (127, Ex (.pointer (some ⟨ob, 0, none⟩))), (128, Ex (.slice (some ⟨gk, 0, none⟩) B.keys.length kc)), (129, Ex (Kv j)), (130, Ex (.pointer (some ⟨gk, j, none⟩))), (131, Ex (Kv x)), (132, FMine 0 ns), (133, Ex (.pointer (some ⟨qb, 0, none⟩))), (134, Ex (.slice (some ⟨gk, 0, none⟩) B.keys.length kc)), (135, Ex (Kv j)), (136, Ex (.pointer (some ⟨gk, j, none⟩))), (137, Ex (Kv x)), (138, FMine 0 ns), (139, Ex (.bool true)), (140, Ex (.bool false)), (141, Ex (.bool false))] (by kernel_rfl) (by kernel_rfl) (by rfl) (by rfl)
          (fun a => Fr.refl _ a) (fun a b c h k => h.trans k (fun _ _ f => f)) (Fr.refl _ _).drew
          (Stays.all ⟨Ex.stays _, Ex.stays _, Ex.stays _, Ex.stays _, Ex.stays _, Ex.stays _, Ex.stays _, Ex.stays _, Ex.stays _, Ex.stays _, Ex.stays _, Ex.stays _, Ex.stays _, Ex.stays _, Ex.stays _, Ex.stays _, Ex.stays _, Ex.stays _, Ex.stays _, FMine.stays _ _, Ex.stays _, Ex.stays _, Ex.stays _, Ex.stays _, Ex.stays _, FMine.stays _ _, Ex.stays _, Ex.stays _, Ex.stays _, Ex.stays _, Ex.stays _, Ex.stays _, Ex.stays _, Ex.stays _, Ex.stays _, FMine.stays _ _, Ex.stays _, Ex.stays _, Ex.stays _, Ex.stays _, Ex.stays _, FMine.stays _ _, Ex.stays _, Ex.stays _, Ex.stays _, trivial⟩) ?_ ?_
        · go_light
          refine OpGoals.cons (OpGoal.plain rfl ?_) (OpGoals.cons (OpGoal.plain rfl ?_) (OpGoals.cons (OpGoal.plain rfl ?_) (OpGoals.cons (OpGoal.plain rfl ?_) (OpGoals.cons (OpGoal.plain rfl ?_) (OpGoals.cons (OpGoal.plain rfl ?_) (OpGoals.cons (OpGoal.plain rfl ?_) (OpGoals.cons (OpGoal.plain rfl ?_) (OpGoals.cons (OpGoal.plain rfl ?_) (OpGoals.cons (OpGoal.plain rfl ?_) (OpGoals.cons (OpGoal.plain rfl ?_) (OpGoals.cons (OpGoal.plain rfl ?_) (OpGoals.cons (OpGoal.plain rfl ?_) (OpGoals.cons (OpGoal.plain rfl ?_) (OpGoals.cons (OpGoal.guarded (d := 110) (want := false) rfl (fun _ _ h => h) ?_) (OpGoals.cons (OpGoal.guarded (d := 110) (want := false) rfl (fun _ _ h => h) ?_) (OpGoals.cons (OpGoal.guarded (d := 110) (want := false) rfl (fun _ _ h => h) ?_) (OpGoals.cons (OpGoal.guarded (d := 110) (want := false) rfl (fun _ _ h => h) ?_) (OpGoals.cons (OpGoal.guarded (d := 110) (want := false) rfl (fun _ _ h => h) ?_) (OpGoals.cons (OpGoal.guarded (d := 110) (want := false) rfl (fun _ _ h => h) ?_) (OpGoals.cons (OpGoal.guarded (d := 110) (want := false) rfl (fun _ _ h => h) ?_) (OpGoals.cons (OpGoal.guarded (d := 110) (want := false) rfl (fun _ _ h => h) ?_) (OpGoals.cons (OpGoal.guarded (d := 110) (want := false) rfl (fun _ _ h => h) ?_) (OpGoals.cons (OpGoal.guarded (d := 110) (want := false) rfl (fun _ _ h => h) ?_) (OpGoals.cons (OpGoal.guarded (d := 110) (want := false) rfl (fun _ _ h => h) ?_) (OpGoals.cons (OpGoal.guarded (d := 110) (want := false) rfl (fun _ _ h => h) ?_) (OpGoals.cons (OpGoal.guarded (d := 110) (want := false) rfl (fun _ _ h => h) ?_) (OpGoals.cons (OpGoal.guarded (d := 110) (want := false) rfl (fun _ _ h => h) ?_) (OpGoals.cons (OpGoal.plain rfl ?_) (OpGoals.cons (OpGoal.plain rfl ?_) (OpGoals.cons (OpGoal.guarded (d := 126) (want := false) rfl (fun _ _ h => h) ?_) (OpGoals.cons (OpGoal.guarded (d := 126) (want := false) rfl (fun _ _ h => h) ?_) (OpGoals.cons (OpGoal.guarded (d := 126) (want := false) rfl (fun _ _ h => h) ?_) (OpGoals.cons (OpGoal.guarded (d := 126) (want := false) rfl (fun _ _ h => h) ?_) (OpGoals.cons (OpGoal.guarded (d := 126) (want := false) rfl (fun _ _ h => h) ?_) (OpGoals.cons (OpGoal.guarded (d := 126) (want := false) rfl (fun _ _ h => h) ?_) (OpGoals.cons (OpGoal.guarded (d := 126) (want := false) rfl (fun _ _ h => h) ?_) (OpGoals.cons (OpGoal.guarded (d := 126) (want := false) rfl (fun _ _ h => h) ?_) (OpGoals.cons (OpGoal.guarded (d := 126) (want := false) rfl (fun _ _ h => h) ?_) (OpGoals.cons (OpGoal.guarded (d := 126) (want := false) rfl (fun _ _ h => h) ?_) (OpGoals.cons (OpGoal.guarded (d := 126) (want := false) rfl (fun _ _ h => h) ?_) (OpGoals.cons (OpGoal.guarded (d := 126) (want := false) rfl (fun _ _ h => h) ?_) (OpGoals.cons (OpGoal.guarded (d := 126) (want := false) rfl (fun _ _ h => h) ?_) (OpGoals.cons (OpGoal.guarded (d := 126) (want := false) rfl (fun _ _ h => h) ?_) (OpGoals.cons (OpGoal.plain rfl ?_) OpGoals.none))))))))))))))))))))))))))))))))))))))))))))
          all_goals (intro a' w' hS hR; simp [Rd, Op.operands, Call.operands, Fk, Ex] at hR)
          all_goals (have hck' := hS.cell hck (fun f => f))
          all_goals try (simp [Yields, execOp, Act.eval, hR, hck', hj1, go_sem, Fk, Ex, Fr.refl]; done)
          · simp [Yields, Act.eval, hR, go_sem, Fk, Ex]
            refine (tagI (H9.out.1.grew (HG.out.trans hS (fun _ _ f => f))) HX.out.1).mono ?_
            rintro e w2 ⟨rfl, rfl⟩
            exact ⟨_, rfl, rfl, Fr.refl _ _⟩
          · simp [Yields, Act.eval, hR, go_sem, Fk, Ex]
            refine (tagI (H9.out.2.1.grew (HG.out.trans hS (fun _ _ f => f))) HX.out.2.1).mono ?_
            rintro e w2 ⟨rfl, rfl⟩
            exact ⟨_, rfl, rfl, Fr.refl _ _⟩
          · simp [Yields, Act.eval, hR, go_sem, Fk, Ex]
            refine (ptrsI (H9.out.1.grew (HG.out.trans hS (fun _ _ f => f))) HX.out.2.2.1 (by omega)).mono ?_
            rintro e w2 ⟨v, rfl, h1, h2, h3⟩
            exact ⟨v, rfl, FMine.made h1 h3 (Nat.zero_le _), h2⟩
          · simp [Yields, Act.eval, hR, go_sem, Fk, Ex]
            refine (ptrsI (H9.out.2.1.grew (HG.out.trans hS (fun _ _ f => f))) HX.out.2.2.2.1 (by omega)).mono ?_
            rintro e w2 ⟨v, rfl, h1, h2, h3⟩
            exact ⟨v, rfl, FMine.made h1 h3 (Nat.zero_le _), h2⟩
          · simp [Yields, Act.eval, go_sem, Fk, Ex]
            refine (intsI (l := ps) (hR.1.2.1) (hR.2.2.1) (by omega)).mono ?_
            rintro e w2 ⟨rfl, h2⟩
            exact ⟨_, rfl, rfl, h2⟩
          · simp [Yields, Act.eval, hR, go_sem, Fk, Ex]
            refine (numsI (H9.out.1.grew (HG.out.trans hS (fun _ _ f => f))) HX.out.2.2.2.2.1 (by omega)).mono ?_
            rintro e w2 ⟨v, rfl, h1, h2, h3⟩
            exact ⟨v, rfl, FMine.made h1 h3 (Nat.zero_le _), h2⟩
          · simp [Yields, Act.eval, hR, go_sem, Fk, Ex]
            refine (numsI (H9.out.2.1.grew (HG.out.trans hS (fun _ _ f => f))) HX.out.2.2.2.2.2 (by omega)).mono ?_
            rintro e w2 ⟨v, rfl, h1, h2, h3⟩
            exact ⟨v, rfl, FMine.made h1 h3 (Nat.zero_le _), h2⟩
          · simp [Yields, Act.eval, go_sem, Fk, Ex]
            refine (intsI (l := ns) (hR.1.2.1) (hR.2.2.1) (by omega)).mono ?_
            rintro e w2 ⟨rfl, h2⟩
            exact ⟨_, rfl, rfl, h2⟩
        · intro wx hS
          rintro _ rfl _ rfl _ rfl _ rfl _ rfl _ rfl _ rfl _ rfl _ rfl _ rfl _ rfl _ rfl _ rfl _ rfl _ rfl _ rfl _ rfl _ rfl _ rfl v116 _ _ rfl _ rfl _ rfl _ rfl _ rfl v122 _ _ rfl _ rfl _ rfl _ rfl _ rfl _ rfl _ rfl _ rfl _ rfl v132 _ _ rfl _ rfl _ rfl _ rfl _ rfl v138 _ _ rfl _ rfl _ rfl
          refine Then.nil ?_
          have HGx := hid (HG.out.trans hS (fun _ _ f => f))
          clear HG hS hck HX
          go_wp2
          go_roundw
          case rel => exact ⟨j + 1, by omega, by go_num, HGx.out⟩
          case measure => simp [intOf]; omega
      · have HGx := hid (H9.out.2.2.2.2.trans HG.out (fun _ _ f => f))
        clear HG H9
        go_wp2
        go_ret
        exact ⟨rfl, HGx.out.below⟩

/-! ### THE ROW's STEP: WRITTEN OUT: LEAVE IT -/
set_option maxRecDepth 100000 in
theorem lifted (os : Os) (started : os.Started) (H : Type) (enc : TypeId × Value → H) :
    ReturnsInHanded {} Try.checked os 19 .any (Rows.gcAgainSpec.pre6 enc Try.prog Try.f19 Rows.gcAgainRow.domain false) (Rows.gcAgainSpec.post enc Try.prog Try.f19 false true false false) := by
  refine returnsInHanded_of_change (C := Try.checked) own started (by kernel_rfl) Try.func19
    (ChangeSpec.witness6 (enc := enc) (C := Try.checked) false ⟨#[], #[.slice none 0 0, .slice none 0 0], []⟩ 8 (by kernel_rfl) (by kernel_rfl) (by kernel_rfl) (by kernel_rfl)) ?_
  intro W base args ds gs before hval0 hW hcnd _
  have hval : ∀ (j : Nat) t v, Try.f19.params[j]? = some t → args[j]? = some v → Value.okWide Try.prog W .any base t v := hval0
  have hW' := hW
  obtain ⟨p, q, hA0, hV, rfl, hfz, hnd⟩ := hW
  have hA : DataW.TrodAll enc Try.prog W 0 (fun _ => true) true Try.f19.params.toList args.toList ds p := hA0
  rw [Try.params19] at hA hval
  obtain ⟨v0, vs0, d0, ds0, p0, q0, hargs, rfl, rfl, h0, r0⟩ := trodAll_cons hA
  obtain ⟨v1, vs1, d1, ds1, p1, q1, rfl, rfl, rfl, h1, r1⟩ := trodAll_cons r0
  obtain ⟨rfl, rfl, rfl⟩ := trodAll_nil r1
  obtain rfl : args = #[v0, v1] := by cases args; simp_all
  obtain ⟨rfl, rfl⟩ := trodVars_none hV
  obtain ⟨a0, len0, cap0, rfl⟩ := okWide_slice Try.underlying22 (hval 0 22 v0 rfl rfl)
  have k0 := h0
  have lt0 : ∀ x ∈ p0, x.block < W.heap.size := by obtain ⟨m, hm⟩ := k0; exact DataW.trod_lt m _ _ _ hm
  obtain ⟨z0, w0⟩ : ∃ zs, IsRow .i64 W a0 len0 cap0 zs := by
    obtain ⟨fuel, hf⟩ := h0
    rcases open_ints Try.underlying22 Try.underlying3 (by kernel_rfl) hf with ⟨hcs, _⟩ | ⟨x, l, c, zs, hcs, _, hl, hm, hz, _, hcell, hwz⟩
    · simp [Value.cells] at hcs
      obtain ⟨rfl, rfl, rfl⟩ := hcs
      exact ⟨[], .inl ⟨rfl, rfl, rfl, rfl⟩⟩
    · simp [Value.cells] at hcs
      obtain ⟨rfl, rfl, rfl⟩ := hcs
      exact ⟨zs, .inr ⟨_, rfl, hl, hm, by simpa using hz, hcell, hwz⟩⟩
  obtain ⟨a1, len1, cap1, rfl⟩ := okWide_slice Try.underlying22 (hval 1 22 v1 rfl rfl)
  have k1 := h1
  have lt1 : ∀ x ∈ p1, x.block < W.heap.size := by obtain ⟨m, hm⟩ := k1; exact DataW.trod_lt m _ _ _ hm
  obtain ⟨z1, w1⟩ : ∃ zs, IsRow .i64 W a1 len1 cap1 zs := by
    obtain ⟨fuel, hf⟩ := h1
    rcases open_ints Try.underlying22 Try.underlying3 (by kernel_rfl) hf with ⟨hcs, _⟩ | ⟨x, l, c, zs, hcs, _, hl, hm, hz, _, hcell, hwz⟩
    · simp [Value.cells] at hcs
      obtain ⟨rfl, rfl, rfl⟩ := hcs
      exact ⟨[], .inl ⟨rfl, rfl, rfl, rfl⟩⟩
    · simp [Value.cells] at hcs
      obtain ⟨rfl, rfl, rfl⟩ := hcs
      exact ⟨zs, .inr ⟨_, rfl, hl, hm, by simpa using hz, hcell, hwz⟩⟩
  clear hA0 hval0
  refine (walk a0 len0 cap0 z0 a1 len1 cap1 z1 W w0 w1).mono fun e W' ⟨he, bel⟩ => ?_
  subst he
  exact ⟨_, rfl, _, _, _, [], _, [], hW', trodAll_mk1 (shut_bool Try.underlying4 _), (trodAll_cons_mk (Below.trod laidOut (by kernel_rfl) (of_decide_eq_true (by kernel_rfl)) k0 bel lt0) (trodAll_cons_mk (Below.trod laidOut (by kernel_rfl) (of_decide_eq_true (by kernel_rfl)) k1 bel lt1) trodAll_mk0)), rfl, bel.frame _, fun h => by cases h⟩

theorem over : Rows.gcAgainRow.holds Try.pinned (OpenSpec.ofChange Rows.gcAgainSpec) :=
  OpenClaim.holds_of_wide 19 Try.f19 rfl rfl rfl rfl rfl rfl rfl ⟨rfl, rfl, rfl, rfl, rfl⟩ rfl rfl rfl rfl rfl (by kernel_rfl) Try.func19 (by kernel_rfl)
    (of_decide_eq_true (by kernel_rfl)) (by unfold Func.isWrapper; first | (rw [if_pos (by decide +kernel)]; kernel_rfl) | (rw [if_neg (by decide +kernel)]; exact ⟨rfl, rfl⟩))
    (fun os started H enc _ => lifted os started H enc)

/-- the statement -/
theorem proved : Rows.GcAgainSaid := over
end Go.Proofs.Ytjhdnbediipibaa.gcAgain

namespace Go.Proofs.Ytjhdnbediipibaa
theorem gcAgain_holds : Rows.GcAgainSaid := gcAgain.proved
#print axioms gcAgain_holds
end Go.Proofs.Ytjhdnbediipibaa
