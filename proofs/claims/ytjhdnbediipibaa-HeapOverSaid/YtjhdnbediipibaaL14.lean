/-
  Written over, an object leads on without its numbers, its words stay its, others stay as they were: 'thunk/thunklaw11.HeapOver' returns true, for every input.
  No condition beyond the given row's own.
-/
import Derived.Test.YtjhdnbediipibaaK7
import Derived.Test.YtjhdnbediipibaaRows
import Derived.WalkKit
import Derived.ProofKit
import Derived.OpenShut
import Derived.ShutString
import Derived.ChangeOld
import Derived.Below
namespace Go.Proofs.Ytjhdnbediipibaa.heapOver
open Go.ChangeShapes Go.WideShapes Go.ChangeAt Go.RowKit
open Go.ChangeMaps (open_string shut_string)
set_option linter.unusedVariables false

theorem own : ownKnob Try.prog.godebug = none := by kernel_rfl
theorem laidOut : laidOutB Try.prog = true := by kernel_rfl

/-- WHAT THE WALK IS TOLD OF A SLICE OF INTEGERS THAT CAME IN: it is nil; or it leads to a row of 'cap' cells, the numbers 'zs' (the first 'len' are its elements, the rest its spare room), each fitting its kind. -/
def IsRow (k : IntKind) (w : World) (a : Option Addr) (len cap : Nat) (zs : List Int) : Prop :=
  (a = none ∧ len = 0 ∧ cap = 0 ∧ zs = []) ∨
  ∃ x, a = some x ∧ len ≤ cap ∧ cap ≤ maxLen ∧ zs.length = cap ∧ (∀ i, i < zs.length → w.cell? (x.add i) = some (.int k (zs.getD i 0))) ∧ ∀ n ∈ zs, (Lit.int k n).wf = true

/-! ### STEP 1: THE WALK: the Go text returns true, AND WRITES NOTHING THAT WAS THERE: 'Below w.heap.size w w'' (Derived/Below.lean: '.refl', '.alloc', '.drew', '.setCell' at a new block, '.trans'). Open each 'IsRow' by 'rcases' AHEAD of 'go_enter'; part every test ahead of the walk. -/
/-! ### STEP 1: THE WALK -/
set_option maxHeartbeats 8000000 in
set_option maxRecDepth 100000 in
theorem walk (a0 : Option Addr) (len0 cap0 : Nat) (z0 : List Int) (a1 : Int) (a2 : Int) (w : World) (w0 : IsRow .i64 w a0 len0 cap0 z0) (w1 : (Lit.int .i64 a1).wf = true) (w2 : (Lit.int .i64 a2).wf = true) :
    Calls Try.prog 16 #[.slice a0 len0 cap0, .int .i64 a1, .int .i64 a2] w fun e w' => e = .returned (.bool true) ∧ Below w.heap.size w w' := by
  have hr0 : RowIn w a0 len0 cap0 := by
    rcases w0 with ⟨_, h, _⟩ | ⟨x, h1, h2, h3, h4, h5, _⟩
    · exact ⟨by simp [h], fun i hi => by omega⟩
    · exact ⟨by omega, fun i hi => ⟨x, _, h1, h2, h5 i (by omega)⟩⟩
  have HR := hid hr0
  have hlm := hr0.1
  unfold maxLen at hlm
  clear w0 w1 w2 hr0
  have hkw := known11_any w
  go_enter Try.func16, Try.ntmps16
  go_wp2_with fail
  refine hkw.mono ?_
  rintro e w1 ⟨rfl, g1⟩
  have HG := hid g1
  clear g1 hkw
  go_wp2_with fail
  refine (new_any _ _).mono ?_
  rintro e w2 ⟨hb, f1, rfl, p1, g2, c1⟩
  have H1 := hid (And.intro p1 (And.intro g2 c1))
  clear p1 g2 c1
  go_wp2_with fail
  refine (rnew_any _ _).mono ?_
  rintro e w3 ⟨xb, f2, rfl, p2, g3, c2⟩
  have HS := hid (TwoRel.start (by omega) (by omega) HG.out H1.out.1 H1.out.2.1 H1.out.2.2 p2 g3 c2)
  clear p2 g3 c2 H1 HG
  go_wp2
  go_loopw [9] (fun i wr => ∃ k : Nat, k ≤ 25 ∧ k ≤ len0 ∧ i = .int .i64 k ∧ TwoRel w hb xb wr) (fun i _ => 25 - (intOf i).toNat)
  case atStart => exact ⟨0, by omega, Nat.zero_le _, rfl, HS.out⟩
  case round =>
    clear HS
    obtain ⟨k, hk, hkl, rfl, hT⟩ := hrel
    have hG := hT.world
    have HT := hid hT
    by_cases hlt : k < len0 ∧ k < 25
    · obtain ⟨hlt1, hlt2⟩ := hlt
      obtain ⟨x, v, rfl, hcap, hc⟩ := HR.out.2 k hlt1
      replace hc := hG.cell hc (fun f => f)
      clear hT hG
      go_wp2_with fail
      refine (HT.out.step _ _).mono ?_
      rintro e w4 ⟨rfl, h4⟩
      have H4 := hid h4
      clear h4 hc HT
      go_wp2
      go_roundw
      case rel => exact ⟨k + 1, by omega, by omega, by go_num, H4.out⟩
      case measure => simp [intOf]; omega
    · have hor : ¬ k < len0 ∨ (k < len0 ∧ ¬ k < 25) := by by_cases h : k < len0 <;> simp_all
      obtain ⟨A, fp, hW, ⟨f1, f2, rfl, hp, hx, hdis⟩, hG2, hB⟩ := hT
      have HT := hid (And.intro hp (And.intro hx (And.intro hW (And.intro hdis (And.intro hG2 hB)))))
      clear hG hp hx hdis hG2 hB hlt
      obtain ⟨L, hL⟩ : ∃ n, A.keys.length = n := ⟨_, rfl⟩
      have HL := hid hL
      have hL0 : L ≤ 500000 := by have := hW.len; rw [← hL]; unfold AH.keys; rw [List.length_map]; omega
      clear hL hW
      rcases hor with hlt1 | ⟨hlt1, hlt2⟩
      · skip
        go_wp2_with fail
        refine (objsI HT.out.1 HT.out.2.2.1 rfl).mono ?_
        rintro e w5 ⟨lv, rfl, hl, gl5, fl⟩
        obtain ⟨la, lc, rfl, _, _⟩ := hl.shape
        have hG5 := HT.out.2.2.2.2.1.trans gl5 (fun _ _ f => f)
        rw [HL.out]
        by_cases hlt2 : L < 2
        · have HG := hid hG5
          clear hl gl5 fl HT HL hG5 HR
          go_wp2
          go_ret
          exact ⟨rfl, HG.out.below⟩
        obtain ⟨gl, lc', he, hlc, _, hglt, hcl⟩ := hl.at (by rw [HL.out]; omega)
        simp only [Value.slice.injEq] at he
        obtain ⟨rfl, _, rfl⟩ := he
        rw [HL.out] at hlc
        have hglw := fl gl rfl
        have hp5 := HT.out.1.grew gl5
        have hx5 := HT.out.2.1.grew gl5
        have hgf1 : gl ∉ f1 := fun hm => by have := HT.out.1.lt gl hm; omega
        have hgf2 : gl ∉ f2 := fun hm => by have := HT.out.2.1.lt gl hm; omega
        obtain ⟨i, hi, hiL⟩ : ∃ i : Nat, a1 % (L : Int) = i ∧ i < L := by
          have h1 := Int.emod_nonneg a1 (show (L : Int) ≠ 0 by omega)
          have h2 := Int.emod_lt_of_pos a1 (show (0 : Int) < (L : Int) by omega)
          exact ⟨(a1 % (L : Int)).toNat, by omega, by omega⟩
        obtain ⟨j, hj, hjL⟩ : ∃ j : Nat, a2 % (L : Int) = j ∧ j < L := by
          have h1 := Int.emod_nonneg a2 (show (L : Int) ≠ 0 by omega)
          have h2 := Int.emod_lt_of_pos a2 (show (0 : Int) < (L : Int) by omega)
          exact ⟨(a2 % (L : Int)).toNat, by omega, by omega⟩
        have hwi := fun w => within11_any a1 (L : Int) w (by omega) (by omega)
        have hwj := fun w => within11_any a2 (L : Int) w (by omega) (by omega)
        rw [hi] at hwi
        rw [hj] at hwj
        have hiL' : i < A.keys.length := by rw [HL.out]; exact hiL
        have hjL' : j < A.keys.length := by rw [HL.out]; exact hjL
        have hci := (hcl i hiL').1
        have hcj := (hcl j hjL').1
        have hik : A.has A.keys[i] := has_iff.2 (List.getElem_mem hiL')
        have hjk : A.has A.keys[j] := has_iff.2 (List.getElem_mem hjL')
        have hne : i ≠ j → A.keys[i] ≠ A.keys[j] := fun h e => h ((List.getElem_inj (HT.out.2.2.1.nodup)).1 e)
        have hsame : i = j → A.keys[i] = A.keys[j] := fun h => by subst h; rfl
        generalize A.keys[i] = ki at *
        generalize A.keys[j] = kj at *
        obtain ⟨u, hu⟩ : ∃ u, A.used = u := ⟨_, rfl⟩
        have hus := usedI hp5 hu
        have hii : ((i : Int) != (i : Int)) = false := by simp
        have hLL : ((L : Int) != (L : Int)) = false := by simp
        have huu : (u != u) = false := by simp
        have hT0 := HT.out.2.2
        have hB1 : ∀ b ∈ f1, w.heap.size ≤ b := fun b hb => hT0.2.2.2 b (by simp [hb])
        have hB2 : ∀ b ∈ f2, w.heap.size ≤ b := fun b hb => hT0.2.2.2 b (by simp [hb])
        have hx5lt := hx5.lt
        clear HT
        have HT := hid (And.intro hp5 (And.intro hx5 (And.intro hT0.1 (And.intro hT0.2.1 (And.intro hG5 (And.intro hik (And.intro hjk (And.intro hB1 (And.intro hB2 hx5lt)))))))))
        have HN := hid (And.intro hne (And.intro hsame (And.intro hgf1 hgf2)))
        clear hp5 hx5 hT0 hG5 hik hjk hcl hl gl5 fl hi hj hne hsame hgf1 hgf2 hB1 hB2 hx5lt hiL' hjL' hglw HR
        go_wp2_with fail
        refine (hwi _).mono ?_
        rintro e w' ⟨rfl, rfl⟩
        clear hwi
        go_wp2_with fail
        refine (hwj _).mono ?_
        rintro e w' ⟨rfl, rfl⟩
        clear hwj
        go_wp2_with fail
        refine hus.mono ?_
        rintro e w' ⟨rfl, rfl⟩
        clear hus
        by_cases hij : i = j
        · subst hij
          have hk := HN.out.2.1 rfl
          subst hk
          clear hcj hjL
          go_wp2
          refine wp_region_facts 32 Grew [(59, Ex (.pointer (some ⟨hb, 0, none⟩))), (60, Ex (.slice (some ⟨gl, 0, none⟩) L lc)), (61, Ex (Kv i)), (62, Ex (.pointer (some ⟨gl, i, none⟩))), (63, Ex (Kv ki)), (64, Ex (.slice (some ⟨gl, 0, none⟩) L lc)), (65, Ex (Kv i)), (66, Ex (.pointer (some ⟨gl, i, none⟩))), (67, Ex (Kv ki)), (68, Ex (.bool false)), (69, Ex (Kv i)), (70, Ex (Kv i)), (71, Ex (.bool false)), (72, Ex (.bool false)), (73, Ex (.bool false)), (74, Ex (.pointer (some ⟨hb, 0, none⟩))), (75, Ex (.pointer (some ⟨hb, 0, none⟩))), (76, Ex (.pointer (some ⟨hb, 0, none⟩))), (77, Ex (Kv u)), (78, Ex (Kv u)), (79, Ex (.bool false)), (80, Ex (.bool false)), (81, Ex (.bool false)), (82, Ex (.pointer (some ⟨hb, 0, none⟩))), (83, Ex (.pointer (some ⟨hb, 0, none⟩))), (84, Ex (.pointer (some ⟨hb, 0, none⟩))), (85, FLen L), (86, Ex (Kv L)), (87, Ex (.slice (some ⟨gl, 0, none⟩) L lc)), (88, Ex (Kv L)), (89, Ex (.bool false)), (90, Ex (.bool false))] (by kernel_rfl) (by kernel_rfl) (by rfl) (by rfl)
            (fun a => Fr.refl _ a) (fun a b c h k => h.trans k (fun _ _ f => f)) (Fr.refl _ _).drew
            (Stays.all ⟨Ex.stays _, Ex.stays _, Ex.stays _, Ex.stays _, Ex.stays _, Ex.stays _, Ex.stays _, Ex.stays _, Ex.stays _, Ex.stays _, Ex.stays _, Ex.stays _, Ex.stays _, Ex.stays _, Ex.stays _, Ex.stays _, Ex.stays _, Ex.stays _, Ex.stays _, Ex.stays _, Ex.stays _, Ex.stays _, Ex.stays _, Ex.stays _, Ex.stays _, Ex.stays _, FLen.stays _, Ex.stays _, Ex.stays _, Ex.stays _, Ex.stays _, Ex.stays _, trivial⟩) ?_ ?_
          · go_light
            refine OpGoals.cons (OpGoal.plain rfl ?_) (OpGoals.cons (OpGoal.plain rfl ?_) (OpGoals.cons (OpGoal.plain rfl ?_) (OpGoals.cons (OpGoal.plain rfl ?_) (OpGoals.cons (OpGoal.plain rfl ?_) (OpGoals.cons (OpGoal.plain rfl ?_) (OpGoals.cons (OpGoal.plain rfl ?_) (OpGoals.cons (OpGoal.plain rfl ?_) (OpGoals.cons (OpGoal.plain rfl ?_) (OpGoals.cons (OpGoal.plain rfl ?_) (OpGoals.cons (OpGoal.plain rfl ?_) (OpGoals.cons (OpGoal.plain rfl ?_) (OpGoals.cons (OpGoal.plain rfl ?_) (OpGoals.cons (OpGoal.plain rfl ?_) (OpGoals.cons (OpGoal.plain rfl ?_) (OpGoals.cons (OpGoal.guarded (d := 73) (want := false) rfl (fun _ _ h => h) ?_) (OpGoals.cons (OpGoal.guarded (d := 73) (want := false) rfl (fun _ _ h => h) ?_) (OpGoals.cons (OpGoal.guarded (d := 73) (want := false) rfl (fun _ _ h => h) ?_) (OpGoals.cons (OpGoal.guarded (d := 73) (want := false) rfl (fun _ _ h => h) ?_) (OpGoals.cons (OpGoal.guarded (d := 73) (want := false) rfl (fun _ _ h => h) ?_) (OpGoals.cons (OpGoal.guarded (d := 73) (want := false) rfl (fun _ _ h => h) ?_) (OpGoals.cons (OpGoal.plain rfl ?_) (OpGoals.cons (OpGoal.plain rfl ?_) (OpGoals.cons (OpGoal.guarded (d := 81) (want := false) rfl (fun _ _ h => h) ?_) (OpGoals.cons (OpGoal.guarded (d := 81) (want := false) rfl (fun _ _ h => h) ?_) (OpGoals.cons (OpGoal.guarded (d := 81) (want := false) rfl (fun _ _ h => h) ?_) (OpGoals.cons (OpGoal.guarded (d := 81) (want := false) rfl (fun _ _ h => h) ?_) (OpGoals.cons (OpGoal.guarded (d := 81) (want := false) rfl (fun _ _ h => h) ?_) (OpGoals.cons (OpGoal.guarded (d := 81) (want := false) rfl (fun _ _ h => h) ?_) (OpGoals.cons (OpGoal.guarded (d := 81) (want := false) rfl (fun _ _ h => h) ?_) (OpGoals.cons (OpGoal.guarded (d := 81) (want := false) rfl (fun _ _ h => h) ?_) (OpGoals.cons (OpGoal.plain rfl ?_) OpGoals.none)))))))))))))))))))))))))))))))
            all_goals (intro a' w' hS hR; simp [Rd, Op.operands, Call.operands, Fk, Ex] at hR)
            all_goals (have hci' := hS.cell hci (fun f => f))
            all_goals try (simp [Yields, execOp, Act.eval, hR, hci', hiL, go_sem, Fk, Ex, Fr.refl]; done)
            · simp [Yields, Act.eval, hR, go_sem, Fk, Ex]
              refine (over_any (HT.out.1.grew hS) ki ki).mono ?_
              intro e w2 hp
              unfold OverPost at hp
              rw [if_neg (fun h => h.2.2 rfl)] at hp
              obtain ⟨rfl, rfl⟩ := hp
              exact ⟨_, rfl, rfl, Fr.refl _ _⟩
            · simp [Yields, Act.eval, hR, go_sem, Fk, Ex]
              refine (usedI (HT.out.1.grew hS) hu).mono ?_
              rintro e w2 ⟨rfl, rfl⟩
              exact ⟨_, rfl, rfl, Fr.refl _ _⟩
            · simp [Yields, Act.eval, hR, go_sem, Fk, Ex]
              refine (objsI (HT.out.1.grew hS) HT.out.2.2.1 rfl).mono ?_
              rintro e w2 ⟨v, rfl, h1, h2, _⟩
              obtain ⟨x, c, rfl, _⟩ := h1.shape
              exact ⟨_, rfl, ⟨x, c, by rw [← HL.out]⟩, h2⟩
            · obtain ⟨x, c, e⟩ := hR
              simp [Yields, Act.eval, e, go_sem, Fk, Ex, Fr.refl]
          · intro w6 hS
            rintro _ rfl _ rfl _ rfl _ rfl _ rfl _ rfl _ rfl _ rfl _ rfl _ rfl _ rfl _ rfl _ rfl _ rfl _ rfl _ rfl _ rfl _ rfl _ rfl _ rfl _ rfl _ rfl _ rfl _ rfl _ rfl _ rfl v85 _ _ rfl _ rfl _ rfl _ rfl _ rfl
            refine Then.nil ?_
            have HG := hid (HT.out.2.2.2.2.1.trans hS (fun _ _ f => f))
            have hie : ((i : Int) == (i : Int)) = true := by simp
            clear hS HT HN HL hci hii hLL huu
            go_wp2
            go_ret
            exact ⟨rfl, HG.out.below⟩
        · have ok : A.OverOk ki kj := ⟨HT.out.2.2.2.2.2.1, HT.out.2.2.2.2.2.2.1, HN.out.1 hij⟩
          have hije : ((i : Int) != (j : Int)) = true := by simp; omega
          have hije2 : ((i : Int) == (j : Int)) = false := by simp; omega
          have hgf : ¬ (gl ∈ f1 ∨ w5.heap.size ≤ gl) := fun h => h.elim HN.out.2.2.1 (fun h => by omega)
          have hRR : ∀ a, OSt hb A (A.over ki kj) f1 w5.heap.size a a := fun a => OSt.grew _ _ _ _ _ (Fr.refl _ a)
          clear hij
          go_wp2
          refine wp_region_facts 32 (OSt hb A (A.over ki kj) f1 w5.heap.size) [(59, Ex (.pointer (some ⟨hb, 0, none⟩))), (60, Ex (.slice (some ⟨gl, 0, none⟩) L lc)), (61, Ex (Kv i)), (62, Ex (.pointer (some ⟨gl, i, none⟩))), (63, Ex (Kv ki)), (64, Ex (.slice (some ⟨gl, 0, none⟩) L lc)), (65, Ex (Kv j)), (66, Ex (.pointer (some ⟨gl, j, none⟩))), (67, Ex (Kv kj)), (68, FOver hb (A.over ki kj) f1 w5.heap.size), (69, Ex (Kv i)), (70, Ex (Kv j)), (71, Ex (.bool true)), (72, Ex (.bool false)), (73, Ex (.bool false)), (74, Ex (.pointer (some ⟨hb, 0, none⟩))), (75, Ex (.pointer (some ⟨hb, 0, none⟩))), (76, Ex (.pointer (some ⟨hb, 0, none⟩))), (77, Ex (Kv u)), (78, Ex (Kv u)), (79, Ex (.bool false)), (80, Ex (.bool false)), (81, Ex (.bool false)), (82, Ex (.pointer (some ⟨hb, 0, none⟩))), (83, Ex (.pointer (some ⟨hb, 0, none⟩))), (84, Ex (.pointer (some ⟨hb, 0, none⟩))), (85, FLenO L), (86, Ex (Kv L)), (87, Ex (.slice (some ⟨gl, 0, none⟩) L lc)), (88, Ex (Kv L)), (89, Ex (.bool false)), (90, Ex (.bool false))] (by kernel_rfl) (by kernel_rfl) (by rfl) (by rfl)
            (fun a => OSt.grew _ _ _ _ _ (Fr.refl _ a)) (fun a b c h k => h.trans k) (OSt.grew _ _ _ _ _ (Fr.refl _ _).drew)
            (Stays.all ⟨Ex.stays _, Ex.stays _, Ex.stays _, Ex.stays _, Ex.stays _, Ex.stays _, Ex.stays _, Ex.stays _, Ex.stays _, FOver.stays, Ex.stays _, Ex.stays _, Ex.stays _, Ex.stays _, Ex.stays _, Ex.stays _, Ex.stays _, Ex.stays _, Ex.stays _, Ex.stays _, Ex.stays _, Ex.stays _, Ex.stays _, Ex.stays _, Ex.stays _, Ex.stays _, FLenO.stays _, Ex.stays _, Ex.stays _, Ex.stays _, Ex.stays _, Ex.stays _, trivial⟩) ?_ ?_
          · go_light
            refine OpGoals.cons (OpGoal.plain rfl ?_) (OpGoals.cons (OpGoal.plain rfl ?_) (OpGoals.cons (OpGoal.plain rfl ?_) (OpGoals.cons (OpGoal.plain rfl ?_) (OpGoals.cons (OpGoal.plain rfl ?_) (OpGoals.cons (OpGoal.plain rfl ?_) (OpGoals.cons (OpGoal.plain rfl ?_) (OpGoals.cons (OpGoal.plain rfl ?_) (OpGoals.cons (OpGoal.plain rfl ?_) (OpGoals.cons (OpGoal.plain rfl ?_) (OpGoals.cons (OpGoal.plain rfl ?_) (OpGoals.cons (OpGoal.plain rfl ?_) (OpGoals.cons (OpGoal.plain rfl ?_) (OpGoals.cons (OpGoal.plain rfl ?_) (OpGoals.cons (OpGoal.plain rfl ?_) (OpGoals.cons (OpGoal.guarded (d := 73) (want := false) rfl (fun _ _ h => h) ?_) (OpGoals.cons (OpGoal.guarded (d := 73) (want := false) rfl (fun _ _ h => h) ?_) (OpGoals.cons (OpGoal.guarded (d := 73) (want := false) rfl (fun _ _ h => h) ?_) (OpGoals.cons (OpGoal.guarded (d := 73) (want := false) rfl (fun _ _ h => h) ?_) (OpGoals.cons (OpGoal.guarded (d := 73) (want := false) rfl (fun _ _ h => h) ?_) (OpGoals.cons (OpGoal.guarded (d := 73) (want := false) rfl (fun _ _ h => h) ?_) (OpGoals.cons (OpGoal.plain rfl ?_) (OpGoals.cons (OpGoal.plain rfl ?_) (OpGoals.cons (OpGoal.guarded (d := 81) (want := false) rfl (fun _ _ h => h) ?_) (OpGoals.cons (OpGoal.guarded (d := 81) (want := false) rfl (fun _ _ h => h) ?_) (OpGoals.cons (OpGoal.guarded (d := 81) (want := false) rfl (fun _ _ h => h) ?_) (OpGoals.cons (OpGoal.guarded (d := 81) (want := false) rfl (fun _ _ h => h) ?_) (OpGoals.cons (OpGoal.guarded (d := 81) (want := false) rfl (fun _ _ h => h) ?_) (OpGoals.cons (OpGoal.guarded (d := 81) (want := false) rfl (fun _ _ h => h) ?_) (OpGoals.cons (OpGoal.guarded (d := 81) (want := false) rfl (fun _ _ h => h) ?_) (OpGoals.cons (OpGoal.guarded (d := 81) (want := false) rfl (fun _ _ h => h) ?_) (OpGoals.cons (OpGoal.plain rfl ?_) OpGoals.none)))))))))))))))))))))))))))))))
            all_goals (intro a' w' hS hR; simp [Rd, Op.operands, Call.operands, Fk, Ex] at hR)
            all_goals (have hci' := hS.fr.cell hci hgf)
            all_goals (have hcj' := hS.fr.cell hcj hgf)
            all_goals try (simp [Yields, execOp, Act.eval, hR, hci', hcj', hiL, hjL, hije, hRR, go_sem, Fk, Ex]; done)
            · simp [Yields, Act.eval, hR, go_sem, Fk, Ex]
              refine (over_either HT.out.1 hS (Nat.le_refl _) ok).mono ?_
              rintro e w2 ⟨rfl, h1, h2⟩
              exact ⟨_, rfl, h1, h2⟩
            · obtain ⟨⟨e, _⟩, e2⟩ := hR
              simp [Yields, execOp, Act.eval, e, e2, go_sem, Fk, Ex]
              exact OSt.grew _ _ _ _ _ (Fr.refl _ _)
            · simp [Yields, Act.eval, hR, go_sem, Fk, Ex]
              refine (used_either HT.out.1 hS (Nat.le_refl _) hu).mono ?_
              rintro e w2 ⟨rfl, rfl⟩
              exact ⟨_, rfl, rfl, OSt.grew _ _ _ _ _ (Fr.refl _ _)⟩
            · simp [Yields, Act.eval, hR, go_sem, Fk, Ex]
              refine (objs_either HT.out.1 HT.out.2.2.1 hS (Nat.le_refl _) ok).mono ?_
              rintro e w2 ⟨v, rfl, h1, h2⟩
              exact ⟨v, rfl, by rw [← HL.out]; exact h1, h2⟩
            · obtain ⟨x, c, e⟩ := hR
              simp [Yields, Act.eval, e, go_sem, Fk, Ex]
              exact OSt.grew _ _ _ _ _ (Fr.refl _ _)
          · intro w6 hS
            rintro _ rfl _ rfl _ rfl _ rfl _ rfl _ rfl _ rfl _ rfl _ rfl v68 f68 _ rfl _ rfl _ rfl _ rfl _ rfl _ rfl _ rfl _ rfl _ rfl _ rfl _ rfl _ rfl _ rfl _ rfl _ rfl _ rfl v85 _ _ rfl _ rfl _ rfl _ rfl _ rfl
            refine Then.nil ?_
            obtain ⟨_, f1', q1, q2⟩ := f68
            have hs56 := hS.fr.size
            have hx6 := HT.out.2.1.kept hS.fr (fun b hb e => e.elim (fun h => HT.out.2.2.2.1 b h hb) (fun h => by have := HT.out.2.2.2.2.2.2.2.2.2 b hb; omega))
            have hG6 := grew_step HT.out.2.2.2.2.1 hS.fr (fun b e => e.elim (HT.out.2.2.2.2.2.2.2.1 b) (fun h => by have := HT.out.2.2.2.2.1.size; omega))
            replace hci := hS.fr.cell hci hgf
            replace hcj := hS.fr.cell hcj hgf
            have hff : (A.over ki kj).find ki = some ⟨5, [kj], []⟩ := by rw [over_find ok.1, if_pos rfl]
            have hpt := ptrsI q1 (ptrs_find hff).1 (by simp)
            have H6 := hid (And.intro q1 (And.intro q2 (And.intro hx6 (And.intro hG6 hff))))
            clear hS hgf hRR q1 q2 hx6 hG6 hff hije hii hLL huu
            go_wp2_with fail
            refine hpt.mono ?_
            rintro e w7 ⟨pv, rfl, hpo, hpg, hpf⟩
            obtain ⟨gp, pc, e, hpc, _, hgpl, hcp⟩ := hpo.at (by simp)
            rw [show ([kj] : List Int).length = 1 from rfl] at e hpc
            subst e
            replace hcp : w7.cell? ⟨gp, 0, none⟩ = some (Kv kj) := (hcp 0 (by simp)).1
            have hgp6 := hpf gp rfl
            replace hci := hpg.cell hci (fun f => f)
            replace hcj := hpg.cell hcj (fun f => f)
            have hs67 := hpg.size
            have H7 := hid (And.intro (H6.out.1.grew hpg) (And.intro (H6.out.2.2.1.grew hpg) (And.intro H6.out.2.1 (And.intro (H6.out.2.2.2.1.trans hpg (fun _ _ f => f)) H6.out.2.2.2.2))))
            have hgr : ¬ (gl ∈ f2 ∨ w7.heap.size ≤ gl) := fun h => h.elim HN.out.2.2.2 (fun h => by omega)
            have hgq : ¬ (gp ∈ f2 ∨ w7.heap.size ≤ gp) := fun h => h.elim (fun h => by have := HT.out.2.2.2.2.2.2.2.2.2 gp h; omega) (fun h => by omega)
            have hRR2 : ∀ a, ROSt xb A (A.over ki kj) f2 w7.heap.size a a := fun a => ROSt.grew _ _ _ _ _ (Fr.refl _ a)
            clear hpt hpo hpg hpf H6
            go_wp2
            refine wp_region_facts 10 (ROSt xb A (A.over ki kj) f2 w7.heap.size) [(100, Ex (.pointer (some ⟨xb, 0, none⟩))), (101, Ex (.slice (some ⟨gl, 0, none⟩) L lc)), (102, Ex (Kv i)), (103, Ex (.pointer (some ⟨gl, i, none⟩))), (104, Ex (Kv ki)), (105, Ex (.slice (some ⟨gl, 0, none⟩) L lc)), (106, Ex (Kv j)), (107, Ex (.pointer (some ⟨gl, j, none⟩))), (108, Ex (Kv kj)), (109, FROver xb (A.over ki kj) f2 w7.heap.size)] (by kernel_rfl) (by kernel_rfl) (by rfl) (by rfl)
              (fun a => ROSt.grew _ _ _ _ _ (Fr.refl _ a)) (fun a b c h k => h.trans k) (ROSt.grew _ _ _ _ _ (Fr.refl _ _).drew)
              (Stays.all ⟨Ex.stays _, Ex.stays _, Ex.stays _, Ex.stays _, Ex.stays _, Ex.stays _, Ex.stays _, Ex.stays _, Ex.stays _, FROver.stays, trivial⟩) ?_ ?_
            · go_light
              refine OpGoals.cons (OpGoal.plain rfl ?_) (OpGoals.cons (OpGoal.plain rfl ?_) (OpGoals.cons (OpGoal.plain rfl ?_) (OpGoals.cons (OpGoal.plain rfl ?_) (OpGoals.cons (OpGoal.plain rfl ?_) (OpGoals.cons (OpGoal.plain rfl ?_) (OpGoals.cons (OpGoal.plain rfl ?_) (OpGoals.cons (OpGoal.plain rfl ?_) (OpGoals.cons (OpGoal.plain rfl ?_) (OpGoals.cons (OpGoal.plain rfl ?_) OpGoals.none)))))))))
              all_goals (intro a' w' hS hR; simp [Rd, Op.operands, Call.operands, Fk, Ex] at hR)
              all_goals (have hci' := hS.fr.cell hci hgr)
              all_goals (have hcj' := hS.fr.cell hcj hgr)
              all_goals try (simp [Yields, execOp, Act.eval, hR, hci', hcj', hiL, hjL, hRR2, go_sem, Fk, Ex]; done)
              · simp [Yields, Act.eval, hR, go_sem, Fk, Ex]
                refine (rover_either H7.out.2.1 hS (Nat.le_refl _) HT.out.2.2.1.fine.few ok).mono ?_
                rintro e w2 ⟨rfl, h1, h2⟩
                exact ⟨_, rfl, h1, h2⟩
            · intro w8 hS
              rintro _ rfl _ rfl _ rfl _ rfl _ rfl _ rfl _ rfl _ rfl _ rfl v109 f109
              refine Then.nil ?_
              obtain ⟨_, f2', r1, r2⟩ := f109
              have hs78 := hS.fr.size
              have hp8 := H7.out.1.kept hS.fr (fun b hb e => by
                have hlt := H7.out.1.lt b hb
                rcases e with e | e
                · rcases H7.out.2.2.1 b hb with h | h
                  · exact HT.out.2.2.2.1 b h e
                  · have := HT.out.2.2.2.2.2.2.2.2.2 b e; omega
                · omega)
              have hG8 := grew_step H7.out.2.2.2.1 hS.fr (fun b e => e.elim (HT.out.2.2.2.2.2.2.2.2.1 b) (fun h => by have := H7.out.2.2.2.1.size; omega))
              have hW8 := WF_over HT.out.2.2.1 ok
              have hT8 : Two w8 hb xb (A.over ki kj) (f1' ++ f2') := ⟨f1', f2', rfl, hp8, r1, fun b hb hb' => by
                have hlt := H7.out.1.lt b hb
                rcases r2 b hb' with e | e
                · rcases H7.out.2.2.1 b hb with h | h
                  · exact HT.out.2.2.2.1 b h e
                  · have := HT.out.2.2.2.2.2.2.2.2.2 b e; omega
                · omega⟩
              replace hci := hS.fr.cell hci hgr
              replace hcj := hS.fr.cell hcj hgr
              replace hcp := hS.fr.cell hcp hgq
              have hpf := ptrs_find H7.out.2.2.2.2
              have H9 := hid (And.intro (And.intro hp8 hT8) (And.intro hpf.2.2 (And.intro hpf.2.1 hW8)))
              have HG := hid hG8
              have hjj : (kj == kj) = true := by simp
              clear hS hgr hgq hRR2 r1 r2 hp8 hG8 hW8 hT8 hpf H7 HT HN HL
              go_wp2
              refine wp_region_facts 38 Grew [(110, Ex (.pointer (some ⟨hb, 0, none⟩))), (111, Ex (.slice (some ⟨gl, 0, none⟩) L lc)), (112, Ex (Kv i)), (113, Ex (.pointer (some ⟨gl, i, none⟩))), (114, Ex (Kv ki)), (115, Ex (Kv 5)), (116, Ex (.bool true)), (117, Ex (.bool true)), (118, Ex (.slice (some ⟨gp, 0, none⟩) 1 pc)), (119, Ex (Kv 1)), (120, Ex (.bool true)), (121, Ex (.bool true)), (122, Ex (.bool true)), (123, Ex (.slice (some ⟨gp, 0, none⟩) 1 pc)), (124, Ex (.pointer (some ⟨gp, 0, none⟩))), (125, Ex (Kv kj)), (126, Ex (.slice (some ⟨gl, 0, none⟩) L lc)), (127, Ex (Kv j)), (128, Ex (.pointer (some ⟨gl, j, none⟩))), (129, Ex (Kv kj)), (130, Ex (.bool true)), (131, Ex (.bool true)), (132, Ex (.bool true)), (133, Ex (.pointer (some ⟨hb, 0, none⟩))), (134, Ex (.slice (some ⟨gl, 0, none⟩) L lc)), (135, Ex (Kv i)), (136, Ex (.pointer (some ⟨gl, i, none⟩))), (137, Ex (Kv ki)), (138, FLen 0), (139, Ex (Kv 0)), (140, Ex (.bool true)), (141, Ex (.bool true)), (142, Ex (.bool true)), (143, Ex (.pointer (some ⟨hb, 0, none⟩))), (144, Ex (.pointer (some ⟨xb, 0, none⟩))), (145, Ex (.bool true)), (146, Ex (.bool true)), (6, Ex (.bool true))] (by kernel_rfl) (by kernel_rfl) (by rfl) (by rfl)
                (fun a => Fr.refl _ a) (fun a b c h k => h.trans k (fun _ _ f => f)) (Fr.refl _ _).drew
                (Stays.all ⟨Ex.stays _, Ex.stays _, Ex.stays _, Ex.stays _, Ex.stays _, Ex.stays _, Ex.stays _, Ex.stays _, Ex.stays _, Ex.stays _, Ex.stays _, Ex.stays _, Ex.stays _, Ex.stays _, Ex.stays _, Ex.stays _, Ex.stays _, Ex.stays _, Ex.stays _, Ex.stays _, Ex.stays _, Ex.stays _, Ex.stays _, Ex.stays _, Ex.stays _, Ex.stays _, Ex.stays _, Ex.stays _, FLen.stays _, Ex.stays _, Ex.stays _, Ex.stays _, Ex.stays _, Ex.stays _, Ex.stays _, Ex.stays _, Ex.stays _, Ex.stays _, trivial⟩) ?_ ?_
              · go_light
                refine OpGoals.cons (OpGoal.plain rfl ?_) (OpGoals.cons (OpGoal.plain rfl ?_) (OpGoals.cons (OpGoal.plain rfl ?_) (OpGoals.cons (OpGoal.plain rfl ?_) (OpGoals.cons (OpGoal.plain rfl ?_) (OpGoals.cons (OpGoal.plain rfl ?_) (OpGoals.cons (OpGoal.plain rfl ?_) (OpGoals.cons (OpGoal.plain rfl ?_) (OpGoals.cons (OpGoal.guarded (d := 117) (want := true) rfl (fun _ _ h => h) ?_) (OpGoals.cons (OpGoal.guarded (d := 117) (want := true) rfl (fun _ _ h => h) ?_) (OpGoals.cons (OpGoal.guarded (d := 117) (want := true) rfl (fun _ _ h => h) ?_) (OpGoals.cons (OpGoal.plain rfl ?_) (OpGoals.cons (OpGoal.plain rfl ?_) (OpGoals.cons (OpGoal.guarded (d := 122) (want := true) rfl (fun _ _ h => h) ?_) (OpGoals.cons (OpGoal.guarded (d := 122) (want := true) rfl (fun _ _ h => h) ?_) (OpGoals.cons (OpGoal.guarded (d := 122) (want := true) rfl (fun _ _ h => h) ?_) (OpGoals.cons (OpGoal.guarded (d := 122) (want := true) rfl (fun _ _ h => h) ?_) (OpGoals.cons (OpGoal.guarded (d := 122) (want := true) rfl (fun _ _ h => h) ?_) (OpGoals.cons (OpGoal.guarded (d := 122) (want := true) rfl (fun _ _ h => h) ?_) (OpGoals.cons (OpGoal.guarded (d := 122) (want := true) rfl (fun _ _ h => h) ?_) (OpGoals.cons (OpGoal.guarded (d := 122) (want := true) rfl (fun _ _ h => h) ?_) (OpGoals.cons (OpGoal.plain rfl ?_) (OpGoals.cons (OpGoal.plain rfl ?_) (OpGoals.cons (OpGoal.guarded (d := 132) (want := true) rfl (fun _ _ h => h) ?_) (OpGoals.cons (OpGoal.guarded (d := 132) (want := true) rfl (fun _ _ h => h) ?_) (OpGoals.cons (OpGoal.guarded (d := 132) (want := true) rfl (fun _ _ h => h) ?_) (OpGoals.cons (OpGoal.guarded (d := 132) (want := true) rfl (fun _ _ h => h) ?_) (OpGoals.cons (OpGoal.guarded (d := 132) (want := true) rfl (fun _ _ h => h) ?_) (OpGoals.cons (OpGoal.guarded (d := 132) (want := true) rfl (fun _ _ h => h) ?_) (OpGoals.cons (OpGoal.guarded (d := 132) (want := true) rfl (fun _ _ h => h) ?_) (OpGoals.cons (OpGoal.guarded (d := 132) (want := true) rfl (fun _ _ h => h) ?_) (OpGoals.cons (OpGoal.plain rfl ?_) (OpGoals.cons (OpGoal.plain rfl ?_) (OpGoals.cons (OpGoal.guarded (d := 142) (want := true) rfl (fun _ _ h => h) ?_) (OpGoals.cons (OpGoal.guarded (d := 142) (want := true) rfl (fun _ _ h => h) ?_) (OpGoals.cons (OpGoal.guarded (d := 142) (want := true) rfl (fun _ _ h => h) ?_) (OpGoals.cons (OpGoal.plain rfl ?_) (OpGoals.cons (OpGoal.plain rfl ?_) OpGoals.none)))))))))))))))))))))))))))))))))))))
                all_goals (intro a' w' hS hR; simp [Rd, Op.operands, Call.operands, Fk, Ex] at hR)
                all_goals (have hci' := hS.cell hci (fun f => f))
                all_goals (have hcj' := hS.cell hcj (fun f => f))
                all_goals (have hcp' := hS.cell hcp (fun f => f))
                all_goals try (simp [Yields, execOp, Act.eval, hR, hci', hcj', hcp', hiL, hjL, go_sem, Fk, Ex, Fr.refl]; done)
                · simp [Yields, Act.eval, hR, go_sem, Fk, Ex]
                  refine (tagI (H9.out.1.1.grew hS) H9.out.2.1).mono ?_
                  rintro e w2 ⟨rfl, rfl⟩
                  exact ⟨_, rfl, rfl, Fr.refl _ _⟩
                · simp [Yields, Act.eval, hR, go_sem, Fk, Ex]
                  refine (numsI (H9.out.1.1.grew hS) H9.out.2.2.1 (by simp)).mono ?_
                  rintro e w2 ⟨v, rfl, h1, h2, _⟩
                  obtain ⟨x, c, rfl, _⟩ := h1.shape
                  exact ⟨_, rfl, ⟨x, c, rfl⟩, h2⟩
                · obtain ⟨x, c, e⟩ := hR
                  simp [Yields, Act.eval, e, go_sem, Fk, Ex, Fr.refl]
                · simp [Yields, Act.eval, hR, go_sem, Fk, Ex]
                  refine (same_any (H9.out.1.2.grew hS) H9.out.2.2.2).mono ?_
                  rintro e w2 ⟨rfl, h2⟩
                  exact ⟨_, rfl, rfl, h2⟩
              · intro w9 hS
                rintro _ rfl _ rfl _ rfl _ rfl _ rfl _ rfl _ rfl _ rfl _ rfl _ rfl _ rfl _ rfl _ rfl _ rfl _ rfl _ rfl _ rfl _ rfl _ rfl _ rfl _ rfl _ rfl _ rfl _ rfl _ rfl _ rfl _ rfl _ rfl v138 _ _ rfl _ rfl _ rfl _ rfl _ rfl _ rfl _ rfl _ rfl _ rfl
                refine Then.nil ?_
                have HGx := hid (HG.out.trans hS (fun _ _ f => f))
                clear hS HG H9 hci hcj hcp
                go_wp2
                go_ret
                exact ⟨rfl, HGx.out.below⟩
      · skip
        go_wp2_with fail
        refine (objsI HT.out.1 HT.out.2.2.1 rfl).mono ?_
        rintro e w5 ⟨lv, rfl, hl, gl5, fl⟩
        obtain ⟨la, lc, rfl, _, _⟩ := hl.shape
        have hG5 := HT.out.2.2.2.2.1.trans gl5 (fun _ _ f => f)
        rw [HL.out]
        by_cases hlt2 : L < 2
        · have HG := hid hG5
          clear hl gl5 fl HT HL hG5 HR
          go_wp2
          go_ret
          exact ⟨rfl, HG.out.below⟩
        obtain ⟨gl, lc', he, hlc, _, hglt, hcl⟩ := hl.at (by rw [HL.out]; omega)
        simp only [Value.slice.injEq] at he
        obtain ⟨rfl, _, rfl⟩ := he
        rw [HL.out] at hlc
        have hglw := fl gl rfl
        have hp5 := HT.out.1.grew gl5
        have hx5 := HT.out.2.1.grew gl5
        have hgf1 : gl ∉ f1 := fun hm => by have := HT.out.1.lt gl hm; omega
        have hgf2 : gl ∉ f2 := fun hm => by have := HT.out.2.1.lt gl hm; omega
        obtain ⟨i, hi, hiL⟩ : ∃ i : Nat, a1 % (L : Int) = i ∧ i < L := by
          have h1 := Int.emod_nonneg a1 (show (L : Int) ≠ 0 by omega)
          have h2 := Int.emod_lt_of_pos a1 (show (0 : Int) < (L : Int) by omega)
          exact ⟨(a1 % (L : Int)).toNat, by omega, by omega⟩
        obtain ⟨j, hj, hjL⟩ : ∃ j : Nat, a2 % (L : Int) = j ∧ j < L := by
          have h1 := Int.emod_nonneg a2 (show (L : Int) ≠ 0 by omega)
          have h2 := Int.emod_lt_of_pos a2 (show (0 : Int) < (L : Int) by omega)
          exact ⟨(a2 % (L : Int)).toNat, by omega, by omega⟩
        have hwi := fun w => within11_any a1 (L : Int) w (by omega) (by omega)
        have hwj := fun w => within11_any a2 (L : Int) w (by omega) (by omega)
        rw [hi] at hwi
        rw [hj] at hwj
        have hiL' : i < A.keys.length := by rw [HL.out]; exact hiL
        have hjL' : j < A.keys.length := by rw [HL.out]; exact hjL
        have hci := (hcl i hiL').1
        have hcj := (hcl j hjL').1
        have hik : A.has A.keys[i] := has_iff.2 (List.getElem_mem hiL')
        have hjk : A.has A.keys[j] := has_iff.2 (List.getElem_mem hjL')
        have hne : i ≠ j → A.keys[i] ≠ A.keys[j] := fun h e => h ((List.getElem_inj (HT.out.2.2.1.nodup)).1 e)
        have hsame : i = j → A.keys[i] = A.keys[j] := fun h => by subst h; rfl
        generalize A.keys[i] = ki at *
        generalize A.keys[j] = kj at *
        obtain ⟨u, hu⟩ : ∃ u, A.used = u := ⟨_, rfl⟩
        have hus := usedI hp5 hu
        have hii : ((i : Int) != (i : Int)) = false := by simp
        have hLL : ((L : Int) != (L : Int)) = false := by simp
        have huu : (u != u) = false := by simp
        have hT0 := HT.out.2.2
        have hB1 : ∀ b ∈ f1, w.heap.size ≤ b := fun b hb => hT0.2.2.2 b (by simp [hb])
        have hB2 : ∀ b ∈ f2, w.heap.size ≤ b := fun b hb => hT0.2.2.2 b (by simp [hb])
        have hx5lt := hx5.lt
        clear HT
        have HT := hid (And.intro hp5 (And.intro hx5 (And.intro hT0.1 (And.intro hT0.2.1 (And.intro hG5 (And.intro hik (And.intro hjk (And.intro hB1 (And.intro hB2 hx5lt)))))))))
        have HN := hid (And.intro hne (And.intro hsame (And.intro hgf1 hgf2)))
        clear hp5 hx5 hT0 hG5 hik hjk hcl hl gl5 fl hi hj hne hsame hgf1 hgf2 hB1 hB2 hx5lt hiL' hjL' hglw HR
        go_wp2_with fail
        refine (hwi _).mono ?_
        rintro e w' ⟨rfl, rfl⟩
        clear hwi
        go_wp2_with fail
        refine (hwj _).mono ?_
        rintro e w' ⟨rfl, rfl⟩
        clear hwj
        go_wp2_with fail
        refine hus.mono ?_
        rintro e w' ⟨rfl, rfl⟩
        clear hus
        by_cases hij : i = j
        · subst hij
          have hk := HN.out.2.1 rfl
          subst hk
          clear hcj hjL
          go_wp2
          refine wp_region_facts 32 Grew [(59, Ex (.pointer (some ⟨hb, 0, none⟩))), (60, Ex (.slice (some ⟨gl, 0, none⟩) L lc)), (61, Ex (Kv i)), (62, Ex (.pointer (some ⟨gl, i, none⟩))), (63, Ex (Kv ki)), (64, Ex (.slice (some ⟨gl, 0, none⟩) L lc)), (65, Ex (Kv i)), (66, Ex (.pointer (some ⟨gl, i, none⟩))), (67, Ex (Kv ki)), (68, Ex (.bool false)), (69, Ex (Kv i)), (70, Ex (Kv i)), (71, Ex (.bool false)), (72, Ex (.bool false)), (73, Ex (.bool false)), (74, Ex (.pointer (some ⟨hb, 0, none⟩))), (75, Ex (.pointer (some ⟨hb, 0, none⟩))), (76, Ex (.pointer (some ⟨hb, 0, none⟩))), (77, Ex (Kv u)), (78, Ex (Kv u)), (79, Ex (.bool false)), (80, Ex (.bool false)), (81, Ex (.bool false)), (82, Ex (.pointer (some ⟨hb, 0, none⟩))), (83, Ex (.pointer (some ⟨hb, 0, none⟩))), (84, Ex (.pointer (some ⟨hb, 0, none⟩))), (85, FLen L), (86, Ex (Kv L)), (87, Ex (.slice (some ⟨gl, 0, none⟩) L lc)), (88, Ex (Kv L)), (89, Ex (.bool false)), (90, Ex (.bool false))] (by kernel_rfl) (by kernel_rfl) (by rfl) (by rfl)
            (fun a => Fr.refl _ a) (fun a b c h k => h.trans k (fun _ _ f => f)) (Fr.refl _ _).drew
            (Stays.all ⟨Ex.stays _, Ex.stays _, Ex.stays _, Ex.stays _, Ex.stays _, Ex.stays _, Ex.stays _, Ex.stays _, Ex.stays _, Ex.stays _, Ex.stays _, Ex.stays _, Ex.stays _, Ex.stays _, Ex.stays _, Ex.stays _, Ex.stays _, Ex.stays _, Ex.stays _, Ex.stays _, Ex.stays _, Ex.stays _, Ex.stays _, Ex.stays _, Ex.stays _, Ex.stays _, FLen.stays _, Ex.stays _, Ex.stays _, Ex.stays _, Ex.stays _, Ex.stays _, trivial⟩) ?_ ?_
          · go_light
            refine OpGoals.cons (OpGoal.plain rfl ?_) (OpGoals.cons (OpGoal.plain rfl ?_) (OpGoals.cons (OpGoal.plain rfl ?_) (OpGoals.cons (OpGoal.plain rfl ?_) (OpGoals.cons (OpGoal.plain rfl ?_) (OpGoals.cons (OpGoal.plain rfl ?_) (OpGoals.cons (OpGoal.plain rfl ?_) (OpGoals.cons (OpGoal.plain rfl ?_) (OpGoals.cons (OpGoal.plain rfl ?_) (OpGoals.cons (OpGoal.plain rfl ?_) (OpGoals.cons (OpGoal.plain rfl ?_) (OpGoals.cons (OpGoal.plain rfl ?_) (OpGoals.cons (OpGoal.plain rfl ?_) (OpGoals.cons (OpGoal.plain rfl ?_) (OpGoals.cons (OpGoal.plain rfl ?_) (OpGoals.cons (OpGoal.guarded (d := 73) (want := false) rfl (fun _ _ h => h) ?_) (OpGoals.cons (OpGoal.guarded (d := 73) (want := false) rfl (fun _ _ h => h) ?_) (OpGoals.cons (OpGoal.guarded (d := 73) (want := false) rfl (fun _ _ h => h) ?_) (OpGoals.cons (OpGoal.guarded (d := 73) (want := false) rfl (fun _ _ h => h) ?_) (OpGoals.cons (OpGoal.guarded (d := 73) (want := false) rfl (fun _ _ h => h) ?_) (OpGoals.cons (OpGoal.guarded (d := 73) (want := false) rfl (fun _ _ h => h) ?_) (OpGoals.cons (OpGoal.plain rfl ?_) (OpGoals.cons (OpGoal.plain rfl ?_) (OpGoals.cons (OpGoal.guarded (d := 81) (want := false) rfl (fun _ _ h => h) ?_) (OpGoals.cons (OpGoal.guarded (d := 81) (want := false) rfl (fun _ _ h => h) ?_) (OpGoals.cons (OpGoal.guarded (d := 81) (want := false) rfl (fun _ _ h => h) ?_) (OpGoals.cons (OpGoal.guarded (d := 81) (want := false) rfl (fun _ _ h => h) ?_) (OpGoals.cons (OpGoal.guarded (d := 81) (want := false) rfl (fun _ _ h => h) ?_) (OpGoals.cons (OpGoal.guarded (d := 81) (want := false) rfl (fun _ _ h => h) ?_) (OpGoals.cons (OpGoal.guarded (d := 81) (want := false) rfl (fun _ _ h => h) ?_) (OpGoals.cons (OpGoal.guarded (d := 81) (want := false) rfl (fun _ _ h => h) ?_) (OpGoals.cons (OpGoal.plain rfl ?_) OpGoals.none)))))))))))))))))))))))))))))))
            all_goals (intro a' w' hS hR; simp [Rd, Op.operands, Call.operands, Fk, Ex] at hR)
            all_goals (have hci' := hS.cell hci (fun f => f))
            all_goals try (simp [Yields, execOp, Act.eval, hR, hci', hiL, go_sem, Fk, Ex, Fr.refl]; done)
            · simp [Yields, Act.eval, hR, go_sem, Fk, Ex]
              refine (over_any (HT.out.1.grew hS) ki ki).mono ?_
              intro e w2 hp
              unfold OverPost at hp
              rw [if_neg (fun h => h.2.2 rfl)] at hp
              obtain ⟨rfl, rfl⟩ := hp
              exact ⟨_, rfl, rfl, Fr.refl _ _⟩
            · simp [Yields, Act.eval, hR, go_sem, Fk, Ex]
              refine (usedI (HT.out.1.grew hS) hu).mono ?_
              rintro e w2 ⟨rfl, rfl⟩
              exact ⟨_, rfl, rfl, Fr.refl _ _⟩
            · simp [Yields, Act.eval, hR, go_sem, Fk, Ex]
              refine (objsI (HT.out.1.grew hS) HT.out.2.2.1 rfl).mono ?_
              rintro e w2 ⟨v, rfl, h1, h2, _⟩
              obtain ⟨x, c, rfl, _⟩ := h1.shape
              exact ⟨_, rfl, ⟨x, c, by rw [← HL.out]⟩, h2⟩
            · obtain ⟨x, c, e⟩ := hR
              simp [Yields, Act.eval, e, go_sem, Fk, Ex, Fr.refl]
          · intro w6 hS
            rintro _ rfl _ rfl _ rfl _ rfl _ rfl _ rfl _ rfl _ rfl _ rfl _ rfl _ rfl _ rfl _ rfl _ rfl _ rfl _ rfl _ rfl _ rfl _ rfl _ rfl _ rfl _ rfl _ rfl _ rfl _ rfl _ rfl v85 _ _ rfl _ rfl _ rfl _ rfl _ rfl
            refine Then.nil ?_
            have HG := hid (HT.out.2.2.2.2.1.trans hS (fun _ _ f => f))
            have hie : ((i : Int) == (i : Int)) = true := by simp
            clear hS HT HN HL hci hii hLL huu
            go_wp2
            go_ret
            exact ⟨rfl, HG.out.below⟩
        · have ok : A.OverOk ki kj := ⟨HT.out.2.2.2.2.2.1, HT.out.2.2.2.2.2.2.1, HN.out.1 hij⟩
          have hije : ((i : Int) != (j : Int)) = true := by simp; omega
          have hije2 : ((i : Int) == (j : Int)) = false := by simp; omega
          have hgf : ¬ (gl ∈ f1 ∨ w5.heap.size ≤ gl) := fun h => h.elim HN.out.2.2.1 (fun h => by omega)
          have hRR : ∀ a, OSt hb A (A.over ki kj) f1 w5.heap.size a a := fun a => OSt.grew _ _ _ _ _ (Fr.refl _ a)
          clear hij
          go_wp2
          refine wp_region_facts 32 (OSt hb A (A.over ki kj) f1 w5.heap.size) [(59, Ex (.pointer (some ⟨hb, 0, none⟩))), (60, Ex (.slice (some ⟨gl, 0, none⟩) L lc)), (61, Ex (Kv i)), (62, Ex (.pointer (some ⟨gl, i, none⟩))), (63, Ex (Kv ki)), (64, Ex (.slice (some ⟨gl, 0, none⟩) L lc)), (65, Ex (Kv j)), (66, Ex (.pointer (some ⟨gl, j, none⟩))), (67, Ex (Kv kj)), (68, FOver hb (A.over ki kj) f1 w5.heap.size), (69, Ex (Kv i)), (70, Ex (Kv j)), (71, Ex (.bool true)), (72, Ex (.bool false)), (73, Ex (.bool false)), (74, Ex (.pointer (some ⟨hb, 0, none⟩))), (75, Ex (.pointer (some ⟨hb, 0, none⟩))), (76, Ex (.pointer (some ⟨hb, 0, none⟩))), (77, Ex (Kv u)), (78, Ex (Kv u)), (79, Ex (.bool false)), (80, Ex (.bool false)), (81, Ex (.bool false)), (82, Ex (.pointer (some ⟨hb, 0, none⟩))), (83, Ex (.pointer (some ⟨hb, 0, none⟩))), (84, Ex (.pointer (some ⟨hb, 0, none⟩))), (85, FLenO L), (86, Ex (Kv L)), (87, Ex (.slice (some ⟨gl, 0, none⟩) L lc)), (88, Ex (Kv L)), (89, Ex (.bool false)), (90, Ex (.bool false))] (by kernel_rfl) (by kernel_rfl) (by rfl) (by rfl)
            (fun a => OSt.grew _ _ _ _ _ (Fr.refl _ a)) (fun a b c h k => h.trans k) (OSt.grew _ _ _ _ _ (Fr.refl _ _).drew)
            (Stays.all ⟨Ex.stays _, Ex.stays _, Ex.stays _, Ex.stays _, Ex.stays _, Ex.stays _, Ex.stays _, Ex.stays _, Ex.stays _, FOver.stays, Ex.stays _, Ex.stays _, Ex.stays _, Ex.stays _, Ex.stays _, Ex.stays _, Ex.stays _, Ex.stays _, Ex.stays _, Ex.stays _, Ex.stays _, Ex.stays _, Ex.stays _, Ex.stays _, Ex.stays _, Ex.stays _, FLenO.stays _, Ex.stays _, Ex.stays _, Ex.stays _, Ex.stays _, Ex.stays _, trivial⟩) ?_ ?_
          · go_light
            refine OpGoals.cons (OpGoal.plain rfl ?_) (OpGoals.cons (OpGoal.plain rfl ?_) (OpGoals.cons (OpGoal.plain rfl ?_) (OpGoals.cons (OpGoal.plain rfl ?_) (OpGoals.cons (OpGoal.plain rfl ?_) (OpGoals.cons (OpGoal.plain rfl ?_) (OpGoals.cons (OpGoal.plain rfl ?_) (OpGoals.cons (OpGoal.plain rfl ?_) (OpGoals.cons (OpGoal.plain rfl ?_) (OpGoals.cons (OpGoal.plain rfl ?_) (OpGoals.cons (OpGoal.plain rfl ?_) (OpGoals.cons (OpGoal.plain rfl ?_) (OpGoals.cons (OpGoal.plain rfl ?_) (OpGoals.cons (OpGoal.plain rfl ?_) (OpGoals.cons (OpGoal.plain rfl ?_) (OpGoals.cons (OpGoal.guarded (d := 73) (want := false) rfl (fun _ _ h => h) ?_) (OpGoals.cons (OpGoal.guarded (d := 73) (want := false) rfl (fun _ _ h => h) ?_) (OpGoals.cons (OpGoal.guarded (d := 73) (want := false) rfl (fun _ _ h => h) ?_) (OpGoals.cons (OpGoal.guarded (d := 73) (want := false) rfl (fun _ _ h => h) ?_) (OpGoals.cons (OpGoal.guarded (d := 73) (want := false) rfl (fun _ _ h => h) ?_) (OpGoals.cons (OpGoal.guarded (d := 73) (want := false) rfl (fun _ _ h => h) ?_) (OpGoals.cons (OpGoal.plain rfl ?_) (OpGoals.cons (OpGoal.plain rfl ?_) (OpGoals.cons (OpGoal.guarded (d := 81) (want := false) rfl (fun _ _ h => h) ?_) (OpGoals.cons (OpGoal.guarded (d := 81) (want := false) rfl (fun _ _ h => h) ?_) (OpGoals.cons (OpGoal.guarded (d := 81) (want := false) rfl (fun _ _ h => h) ?_) (OpGoals.cons (OpGoal.guarded (d := 81) (want := false) rfl (fun _ _ h => h) ?_) (OpGoals.cons (OpGoal.guarded (d := 81) (want := false) rfl (fun _ _ h => h) ?_) (OpGoals.cons (OpGoal.guarded (d := 81) (want := false) rfl (fun _ _ h => h) ?_) (OpGoals.cons (OpGoal.guarded (d := 81) (want := false) rfl (fun _ _ h => h) ?_) (OpGoals.cons (OpGoal.guarded (d := 81) (want := false) rfl (fun _ _ h => h) ?_) (OpGoals.cons (OpGoal.plain rfl ?_) OpGoals.none)))))))))))))))))))))))))))))))
            all_goals (intro a' w' hS hR; simp [Rd, Op.operands, Call.operands, Fk, Ex] at hR)
            all_goals (have hci' := hS.fr.cell hci hgf)
            all_goals (have hcj' := hS.fr.cell hcj hgf)
            all_goals try (simp [Yields, execOp, Act.eval, hR, hci', hcj', hiL, hjL, hije, hRR, go_sem, Fk, Ex]; done)
            · simp [Yields, Act.eval, hR, go_sem, Fk, Ex]
              refine (over_either HT.out.1 hS (Nat.le_refl _) ok).mono ?_
              rintro e w2 ⟨rfl, h1, h2⟩
              exact ⟨_, rfl, h1, h2⟩
            · obtain ⟨⟨e, _⟩, e2⟩ := hR
              simp [Yields, execOp, Act.eval, e, e2, go_sem, Fk, Ex]
              exact OSt.grew _ _ _ _ _ (Fr.refl _ _)
            · simp [Yields, Act.eval, hR, go_sem, Fk, Ex]
              refine (used_either HT.out.1 hS (Nat.le_refl _) hu).mono ?_
              rintro e w2 ⟨rfl, rfl⟩
              exact ⟨_, rfl, rfl, OSt.grew _ _ _ _ _ (Fr.refl _ _)⟩
            · simp [Yields, Act.eval, hR, go_sem, Fk, Ex]
              refine (objs_either HT.out.1 HT.out.2.2.1 hS (Nat.le_refl _) ok).mono ?_
              rintro e w2 ⟨v, rfl, h1, h2⟩
              exact ⟨v, rfl, by rw [← HL.out]; exact h1, h2⟩
            · obtain ⟨x, c, e⟩ := hR
              simp [Yields, Act.eval, e, go_sem, Fk, Ex]
              exact OSt.grew _ _ _ _ _ (Fr.refl _ _)
          · intro w6 hS
            rintro _ rfl _ rfl _ rfl _ rfl _ rfl _ rfl _ rfl _ rfl _ rfl v68 f68 _ rfl _ rfl _ rfl _ rfl _ rfl _ rfl _ rfl _ rfl _ rfl _ rfl _ rfl _ rfl _ rfl _ rfl _ rfl _ rfl v85 _ _ rfl _ rfl _ rfl _ rfl _ rfl
            refine Then.nil ?_
            obtain ⟨_, f1', q1, q2⟩ := f68
            have hs56 := hS.fr.size
            have hx6 := HT.out.2.1.kept hS.fr (fun b hb e => e.elim (fun h => HT.out.2.2.2.1 b h hb) (fun h => by have := HT.out.2.2.2.2.2.2.2.2.2 b hb; omega))
            have hG6 := grew_step HT.out.2.2.2.2.1 hS.fr (fun b e => e.elim (HT.out.2.2.2.2.2.2.2.1 b) (fun h => by have := HT.out.2.2.2.2.1.size; omega))
            replace hci := hS.fr.cell hci hgf
            replace hcj := hS.fr.cell hcj hgf
            have hff : (A.over ki kj).find ki = some ⟨5, [kj], []⟩ := by rw [over_find ok.1, if_pos rfl]
            have hpt := ptrsI q1 (ptrs_find hff).1 (by simp)
            have H6 := hid (And.intro q1 (And.intro q2 (And.intro hx6 (And.intro hG6 hff))))
            clear hS hgf hRR q1 q2 hx6 hG6 hff hije hii hLL huu
            go_wp2_with fail
            refine hpt.mono ?_
            rintro e w7 ⟨pv, rfl, hpo, hpg, hpf⟩
            obtain ⟨gp, pc, e, hpc, _, hgpl, hcp⟩ := hpo.at (by simp)
            rw [show ([kj] : List Int).length = 1 from rfl] at e hpc
            subst e
            replace hcp : w7.cell? ⟨gp, 0, none⟩ = some (Kv kj) := (hcp 0 (by simp)).1
            have hgp6 := hpf gp rfl
            replace hci := hpg.cell hci (fun f => f)
            replace hcj := hpg.cell hcj (fun f => f)
            have hs67 := hpg.size
            have H7 := hid (And.intro (H6.out.1.grew hpg) (And.intro (H6.out.2.2.1.grew hpg) (And.intro H6.out.2.1 (And.intro (H6.out.2.2.2.1.trans hpg (fun _ _ f => f)) H6.out.2.2.2.2))))
            have hgr : ¬ (gl ∈ f2 ∨ w7.heap.size ≤ gl) := fun h => h.elim HN.out.2.2.2 (fun h => by omega)
            have hgq : ¬ (gp ∈ f2 ∨ w7.heap.size ≤ gp) := fun h => h.elim (fun h => by have := HT.out.2.2.2.2.2.2.2.2.2 gp h; omega) (fun h => by omega)
            have hRR2 : ∀ a, ROSt xb A (A.over ki kj) f2 w7.heap.size a a := fun a => ROSt.grew _ _ _ _ _ (Fr.refl _ a)
            clear hpt hpo hpg hpf H6
            go_wp2
            refine wp_region_facts 10 (ROSt xb A (A.over ki kj) f2 w7.heap.size) [(100, Ex (.pointer (some ⟨xb, 0, none⟩))), (101, Ex (.slice (some ⟨gl, 0, none⟩) L lc)), (102, Ex (Kv i)), (103, Ex (.pointer (some ⟨gl, i, none⟩))), (104, Ex (Kv ki)), (105, Ex (.slice (some ⟨gl, 0, none⟩) L lc)), (106, Ex (Kv j)), (107, Ex (.pointer (some ⟨gl, j, none⟩))), (108, Ex (Kv kj)), (109, FROver xb (A.over ki kj) f2 w7.heap.size)] (by kernel_rfl) (by kernel_rfl) (by rfl) (by rfl)
              (fun a => ROSt.grew _ _ _ _ _ (Fr.refl _ a)) (fun a b c h k => h.trans k) (ROSt.grew _ _ _ _ _ (Fr.refl _ _).drew)
              (Stays.all ⟨Ex.stays _, Ex.stays _, Ex.stays _, Ex.stays _, Ex.stays _, Ex.stays _, Ex.stays _, Ex.stays _, Ex.stays _, FROver.stays, trivial⟩) ?_ ?_
            · go_light
              refine OpGoals.cons (OpGoal.plain rfl ?_) (OpGoals.cons (OpGoal.plain rfl ?_) (OpGoals.cons (OpGoal.plain rfl ?_) (OpGoals.cons (OpGoal.plain rfl ?_) (OpGoals.cons (OpGoal.plain rfl ?_) (OpGoals.cons (OpGoal.plain rfl ?_) (OpGoals.cons (OpGoal.plain rfl ?_) (OpGoals.cons (OpGoal.plain rfl ?_) (OpGoals.cons (OpGoal.plain rfl ?_) (OpGoals.cons (OpGoal.plain rfl ?_) OpGoals.none)))))))))
              all_goals (intro a' w' hS hR; simp [Rd, Op.operands, Call.operands, Fk, Ex] at hR)
              all_goals (have hci' := hS.fr.cell hci hgr)
              all_goals (have hcj' := hS.fr.cell hcj hgr)
              all_goals try (simp [Yields, execOp, Act.eval, hR, hci', hcj', hiL, hjL, hRR2, go_sem, Fk, Ex]; done)
              · simp [Yields, Act.eval, hR, go_sem, Fk, Ex]
                refine (rover_either H7.out.2.1 hS (Nat.le_refl _) HT.out.2.2.1.fine.few ok).mono ?_
                rintro e w2 ⟨rfl, h1, h2⟩
                exact ⟨_, rfl, h1, h2⟩
            · intro w8 hS
              rintro _ rfl _ rfl _ rfl _ rfl _ rfl _ rfl _ rfl _ rfl _ rfl v109 f109
              refine Then.nil ?_
              obtain ⟨_, f2', r1, r2⟩ := f109
              have hs78 := hS.fr.size
              have hp8 := H7.out.1.kept hS.fr (fun b hb e => by
                have hlt := H7.out.1.lt b hb
                rcases e with e | e
                · rcases H7.out.2.2.1 b hb with h | h
                  · exact HT.out.2.2.2.1 b h e
                  · have := HT.out.2.2.2.2.2.2.2.2.2 b e; omega
                · omega)
              have hG8 := grew_step H7.out.2.2.2.1 hS.fr (fun b e => e.elim (HT.out.2.2.2.2.2.2.2.2.1 b) (fun h => by have := H7.out.2.2.2.1.size; omega))
              have hW8 := WF_over HT.out.2.2.1 ok
              have hT8 : Two w8 hb xb (A.over ki kj) (f1' ++ f2') := ⟨f1', f2', rfl, hp8, r1, fun b hb hb' => by
                have hlt := H7.out.1.lt b hb
                rcases r2 b hb' with e | e
                · rcases H7.out.2.2.1 b hb with h | h
                  · exact HT.out.2.2.2.1 b h e
                  · have := HT.out.2.2.2.2.2.2.2.2.2 b e; omega
                · omega⟩
              replace hci := hS.fr.cell hci hgr
              replace hcj := hS.fr.cell hcj hgr
              replace hcp := hS.fr.cell hcp hgq
              have hpf := ptrs_find H7.out.2.2.2.2
              have H9 := hid (And.intro (And.intro hp8 hT8) (And.intro hpf.2.2 (And.intro hpf.2.1 hW8)))
              have HG := hid hG8
              have hjj : (kj == kj) = true := by simp
              clear hS hgr hgq hRR2 r1 r2 hp8 hG8 hW8 hT8 hpf H7 HT HN HL
              go_wp2
              refine wp_region_facts 38 Grew [(110, Ex (.pointer (some ⟨hb, 0, none⟩))), (111, Ex (.slice (some ⟨gl, 0, none⟩) L lc)), (112, Ex (Kv i)), (113, Ex (.pointer (some ⟨gl, i, none⟩))), (114, Ex (Kv ki)), (115, Ex (Kv 5)), (116, Ex (.bool true)), (117, Ex (.bool true)), (118, Ex (.slice (some ⟨gp, 0, none⟩) 1 pc)), (119, Ex (Kv 1)), (120, Ex (.bool true)), (121, Ex (.bool true)), (122, Ex (.bool true)), (123, Ex (.slice (some ⟨gp, 0, none⟩) 1 pc)), (124, Ex (.pointer (some ⟨gp, 0, none⟩))), (125, Ex (Kv kj)), (126, Ex (.slice (some ⟨gl, 0, none⟩) L lc)), (127, Ex (Kv j)), (128, Ex (.pointer (some ⟨gl, j, none⟩))), (129, Ex (Kv kj)), (130, Ex (.bool true)), (131, Ex (.bool true)), (132, Ex (.bool true)), (133, Ex (.pointer (some ⟨hb, 0, none⟩))), (134, Ex (.slice (some ⟨gl, 0, none⟩) L lc)), (135, Ex (Kv i)), (136, Ex (.pointer (some ⟨gl, i, none⟩))), (137, Ex (Kv ki)), (138, FLen 0), (139, Ex (Kv 0)), (140, Ex (.bool true)), (141, Ex (.bool true)), (142, Ex (.bool true)), (143, Ex (.pointer (some ⟨hb, 0, none⟩))), (144, Ex (.pointer (some ⟨xb, 0, none⟩))), (145, Ex (.bool true)), (146, Ex (.bool true)), (6, Ex (.bool true))] (by kernel_rfl) (by kernel_rfl) (by rfl) (by rfl)
                (fun a => Fr.refl _ a) (fun a b c h k => h.trans k (fun _ _ f => f)) (Fr.refl _ _).drew
                (Stays.all ⟨Ex.stays _, Ex.stays _, Ex.stays _, Ex.stays _, Ex.stays _, Ex.stays _, Ex.stays _, Ex.stays _, Ex.stays _, Ex.stays _, Ex.stays _, Ex.stays _, Ex.stays _, Ex.stays _, Ex.stays _, Ex.stays _, Ex.stays _, Ex.stays _, Ex.stays _, Ex.stays _, Ex.stays _, Ex.stays _, Ex.stays _, Ex.stays _, Ex.stays _, Ex.stays _, Ex.stays _, Ex.stays _, FLen.stays _, Ex.stays _, Ex.stays _, Ex.stays _, Ex.stays _, Ex.stays _, Ex.stays _, Ex.stays _, Ex.stays _, Ex.stays _, trivial⟩) ?_ ?_
              · go_light
                refine OpGoals.cons (OpGoal.plain rfl ?_) (OpGoals.cons (OpGoal.plain rfl ?_) (OpGoals.cons (OpGoal.plain rfl ?_) (OpGoals.cons (OpGoal.plain rfl ?_) (OpGoals.cons (OpGoal.plain rfl ?_) (OpGoals.cons (OpGoal.plain rfl ?_) (OpGoals.cons (OpGoal.plain rfl ?_) (OpGoals.cons (OpGoal.plain rfl ?_) (OpGoals.cons (OpGoal.guarded (d := 117) (want := true) rfl (fun _ _ h => h) ?_) (OpGoals.cons (OpGoal.guarded (d := 117) (want := true) rfl (fun _ _ h => h) ?_) (OpGoals.cons (OpGoal.guarded (d := 117) (want := true) rfl (fun _ _ h => h) ?_) (OpGoals.cons (OpGoal.plain rfl ?_) (OpGoals.cons (OpGoal.plain rfl ?_) (OpGoals.cons (OpGoal.guarded (d := 122) (want := true) rfl (fun _ _ h => h) ?_) (OpGoals.cons (OpGoal.guarded (d := 122) (want := true) rfl (fun _ _ h => h) ?_) (OpGoals.cons (OpGoal.guarded (d := 122) (want := true) rfl (fun _ _ h => h) ?_) (OpGoals.cons (OpGoal.guarded (d := 122) (want := true) rfl (fun _ _ h => h) ?_) (OpGoals.cons (OpGoal.guarded (d := 122) (want := true) rfl (fun _ _ h => h) ?_) (OpGoals.cons (OpGoal.guarded (d := 122) (want := true) rfl (fun _ _ h => h) ?_) (OpGoals.cons (OpGoal.guarded (d := 122) (want := true) rfl (fun _ _ h => h) ?_) (OpGoals.cons (OpGoal.guarded (d := 122) (want := true) rfl (fun _ _ h => h) ?_) (OpGoals.cons (OpGoal.plain rfl ?_) (OpGoals.cons (OpGoal.plain rfl ?_) (OpGoals.cons (OpGoal.guarded (d := 132) (want := true) rfl (fun _ _ h => h) ?_) (OpGoals.cons (OpGoal.guarded (d := 132) (want := true) rfl (fun _ _ h => h) ?_) (OpGoals.cons (OpGoal.guarded (d := 132) (want := true) rfl (fun _ _ h => h) ?_) (OpGoals.cons (OpGoal.guarded (d := 132) (want := true) rfl (fun _ _ h => h) ?_) (OpGoals.cons (OpGoal.guarded (d := 132) (want := true) rfl (fun _ _ h => h) ?_) (OpGoals.cons (OpGoal.guarded (d := 132) (want := true) rfl (fun _ _ h => h) ?_) (OpGoals.cons (OpGoal.guarded (d := 132) (want := true) rfl (fun _ _ h => h) ?_) (OpGoals.cons (OpGoal.guarded (d := 132) (want := true) rfl (fun _ _ h => h) ?_) (OpGoals.cons (OpGoal.plain rfl ?_) (OpGoals.cons (OpGoal.plain rfl ?_) (OpGoals.cons (OpGoal.guarded (d := 142) (want := true) rfl (fun _ _ h => h) ?_) (OpGoals.cons (OpGoal.guarded (d := 142) (want := true) rfl (fun _ _ h => h) ?_) (OpGoals.cons (OpGoal.guarded (d := 142) (want := true) rfl (fun _ _ h => h) ?_) (OpGoals.cons (OpGoal.plain rfl ?_) (OpGoals.cons (OpGoal.plain rfl ?_) OpGoals.none)))))))))))))))))))))))))))))))))))))
                all_goals (intro a' w' hS hR; simp [Rd, Op.operands, Call.operands, Fk, Ex] at hR)
                all_goals (have hci' := hS.cell hci (fun f => f))
                all_goals (have hcj' := hS.cell hcj (fun f => f))
                all_goals (have hcp' := hS.cell hcp (fun f => f))
                all_goals try (simp [Yields, execOp, Act.eval, hR, hci', hcj', hcp', hiL, hjL, go_sem, Fk, Ex, Fr.refl]; done)
                · simp [Yields, Act.eval, hR, go_sem, Fk, Ex]
                  refine (tagI (H9.out.1.1.grew hS) H9.out.2.1).mono ?_
                  rintro e w2 ⟨rfl, rfl⟩
                  exact ⟨_, rfl, rfl, Fr.refl _ _⟩
                · simp [Yields, Act.eval, hR, go_sem, Fk, Ex]
                  refine (numsI (H9.out.1.1.grew hS) H9.out.2.2.1 (by simp)).mono ?_
                  rintro e w2 ⟨v, rfl, h1, h2, _⟩
                  obtain ⟨x, c, rfl, _⟩ := h1.shape
                  exact ⟨_, rfl, ⟨x, c, rfl⟩, h2⟩
                · obtain ⟨x, c, e⟩ := hR
                  simp [Yields, Act.eval, e, go_sem, Fk, Ex, Fr.refl]
                · simp [Yields, Act.eval, hR, go_sem, Fk, Ex]
                  refine (same_any (H9.out.1.2.grew hS) H9.out.2.2.2).mono ?_
                  rintro e w2 ⟨rfl, h2⟩
                  exact ⟨_, rfl, rfl, h2⟩
              · intro w9 hS
                rintro _ rfl _ rfl _ rfl _ rfl _ rfl _ rfl _ rfl _ rfl _ rfl _ rfl _ rfl _ rfl _ rfl _ rfl _ rfl _ rfl _ rfl _ rfl _ rfl _ rfl _ rfl _ rfl _ rfl _ rfl _ rfl _ rfl _ rfl _ rfl v138 _ _ rfl _ rfl _ rfl _ rfl _ rfl _ rfl _ rfl _ rfl _ rfl
                refine Then.nil ?_
                have HGx := hid (HG.out.trans hS (fun _ _ f => f))
                clear hS HG H9 hci hcj hcp
                go_wp2
                go_ret
                exact ⟨rfl, HGx.out.below⟩

/-! ### THE ROW's STEP: WRITTEN OUT: LEAVE IT -/
set_option maxRecDepth 100000 in
theorem lifted (os : Os) (started : os.Started) (H : Type) (enc : TypeId × Value → H) :
    ReturnsInHanded {} Try.checked os 16 .any (Rows.heapOverSpec.pre6 enc Try.prog Try.f16 Rows.heapOverRow.domain false) (Rows.heapOverSpec.post enc Try.prog Try.f16 false true false false) := by
  refine returnsInHanded_of_change (C := Try.checked) own started (by kernel_rfl) Try.func16
    (ChangeSpec.witness6 (enc := enc) (C := Try.checked) false ⟨#[], #[.slice none 0 0, .int .i64 0, .int .i64 0], []⟩ 8 (by kernel_rfl) (by kernel_rfl) (by kernel_rfl) (by kernel_rfl)) ?_
  intro W base args ds gs before hval0 hW hcnd _
  have hval : ∀ (j : Nat) t v, Try.f16.params[j]? = some t → args[j]? = some v → Value.okWide Try.prog W .any base t v := hval0
  have hW' := hW
  obtain ⟨p, q, hA0, hV, rfl, hfz, hnd⟩ := hW
  have hA : DataW.TrodAll enc Try.prog W 0 (fun _ => true) true Try.f16.params.toList args.toList ds p := hA0
  rw [Try.params16] at hA hval
  obtain ⟨v0, vs0, d0, ds0, p0, q0, hargs, rfl, rfl, h0, r0⟩ := trodAll_cons hA
  obtain ⟨v1, vs1, d1, ds1, p1, q1, rfl, rfl, rfl, h1, r1⟩ := trodAll_cons r0
  obtain ⟨v2, vs2, d2, ds2, p2, q2, rfl, rfl, rfl, h2, r2⟩ := trodAll_cons r1
  obtain ⟨rfl, rfl, rfl⟩ := trodAll_nil r2
  obtain rfl : args = #[v0, v1, v2] := by cases args; simp_all
  obtain ⟨rfl, rfl⟩ := trodVars_none hV
  obtain ⟨a0, len0, cap0, rfl⟩ := okWide_slice Try.underlying22 (hval 0 22 v0 rfl rfl)
  have k0 := h0
  have lt0 : ∀ x ∈ p0, x.block < W.heap.size := by obtain ⟨m, hm⟩ := k0; exact DataW.trod_lt m _ _ _ hm
  obtain ⟨z0, w0⟩ : ∃ zs, IsRow .i64 W a0 len0 cap0 zs := by
    obtain ⟨fuel, hf⟩ := h0
    rcases open_ints Try.underlying22 Try.underlying3 (by kernel_rfl) hf with ⟨hcs, _⟩ | ⟨x, l, c, zs, hcs, _, hl, hm, hz, _, hcell, hwz⟩
    · simp [Value.cells] at hcs
      obtain ⟨rfl, rfl, rfl⟩ := hcs
      exact ⟨[], .inl ⟨rfl, rfl, rfl, rfl⟩⟩
    · simp [Value.cells] at hcs
      obtain ⟨rfl, rfl, rfl⟩ := hcs
      exact ⟨zs, .inr ⟨_, rfl, hl, hm, by simpa using hz, hcell, hwz⟩⟩
  obtain ⟨a1, rfl, rfl, rfl, w1⟩ := open_int Try.underlying3 (hval 1 3 v1 rfl rfl) h1
  obtain ⟨a2, rfl, rfl, rfl, w2⟩ := open_int Try.underlying3 (hval 2 3 v2 rfl rfl) h2
  clear hA0 hval0
  refine (walk a0 len0 cap0 z0 a1 a2 W w0 w1 w2).mono fun e W' ⟨he, bel⟩ => ?_
  subst he
  exact ⟨_, rfl, _, _, _, [], _, [], hW', trodAll_mk1 (shut_bool Try.underlying4 _), (trodAll_cons_mk (Below.trod laidOut (by kernel_rfl) (of_decide_eq_true (by kernel_rfl)) k0 bel lt0) (trodAll_cons_mk (shut_int Try.underlying3 w1) (trodAll_cons_mk (shut_int Try.underlying3 w2) trodAll_mk0))), rfl, bel.frame _, fun h => by cases h⟩

theorem over : Rows.heapOverRow.holds Try.pinned (OpenSpec.ofChange Rows.heapOverSpec) :=
  OpenClaim.holds_of_wide 16 Try.f16 rfl rfl rfl rfl rfl rfl rfl ⟨rfl, rfl, rfl, rfl, rfl⟩ rfl rfl rfl rfl rfl (by kernel_rfl) Try.func16 (by kernel_rfl)
    (of_decide_eq_true (by kernel_rfl)) (by unfold Func.isWrapper; first | (rw [if_pos (by decide +kernel)]; kernel_rfl) | (rw [if_neg (by decide +kernel)]; exact ⟨rfl, rfl⟩))
    (fun os started H enc _ => lifted os started H enc)

/-- the statement -/
theorem proved : Rows.HeapOverSaid := over
end Go.Proofs.Ytjhdnbediipibaa.heapOver

namespace Go.Proofs.Ytjhdnbediipibaa
theorem heapOver_holds : Rows.HeapOverSaid := heapOver.proved
#print axioms heapOver_holds
end Go.Proofs.Ytjhdnbediipibaa
