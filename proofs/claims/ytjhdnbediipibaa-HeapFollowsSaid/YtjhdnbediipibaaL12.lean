/-
  What only leads on is followed to what does not, and a ring of such leads nowhere: 'thunk/thunklaw11.HeapFollows' returns true, for every input.
  No condition beyond the given row's own.
-/
import Derived.Test.YtjhdnbediipibaaK8
import Derived.Test.YtjhdnbediipibaaRows
import Derived.WalkKit
import Derived.ProofKit
import Derived.OpenShut
import Derived.ShutString
import Derived.ChangeOld
import Derived.Below
namespace Go.Proofs.Ytjhdnbediipibaa.heapFollows
open Go.ChangeShapes Go.WideShapes Go.ChangeAt Go.RowKit
open Go.ChangeMaps (open_string shut_string)
set_option linter.unusedVariables false

theorem own : ownKnob Try.prog.godebug = none := by kernel_rfl
theorem laidOut : laidOutB Try.prog = true := by kernel_rfl

/-- WHAT THE WALK IS TOLD OF A SLICE OF INTEGERS THAT CAME IN: it is nil; or it leads to a row of 'cap' cells, the numbers 'zs' (the first 'len' are its elements, the rest its spare room), each fitting its kind. -/
def IsRow (k : IntKind) (w : World) (a : Option Addr) (len cap : Nat) (zs : List Int) : Prop :=
  (a = none ∧ len = 0 ∧ cap = 0 ∧ zs = []) ∨
  ∃ x, a = some x ∧ len ≤ cap ∧ cap ≤ maxLen ∧ zs.length = cap ∧ (∀ i, i < zs.length → w.cell? (x.add i) = some (.int k (zs.getD i 0))) ∧ ∀ n ∈ zs, (Lit.int k n).wf = true

/-! ### STEP 1: THE WALK: the Go text returns true, AND WRITES NOTHING THAT WAS THERE: 'Below w.heap.size w w'' (Derived/Below.lean: '.refl', '.alloc', '.drew', '.setCell' at a new block, '.trans'). Open each 'IsRow' by 'rcases' AHEAD of 'go_enter'; part every test ahead of the walk. -/
def Fl1 (w : World) (hb i : Nat) (lv : Value) (wr : World) : Prop :=
  ∃ A fp, PH wr hb A fp ∧ Thunks i A ∧ Grew w wr ∧ (∀ b ∈ fp, w.heap.size ≤ b) ∧ Beside w.heap.size fp wr lv (evens i)
def Fl2 (w : World) (hb k gl lc : Nat) (A : AH) (fp : List Nat) (wr : World) : Prop :=
  ∃ L, PH wr hb A fp ∧ Mixed k L ∧ Grew w wr ∧ Ow wr (.slice (some ⟨gl, 0, none⟩) k lc) L
theorem Fl2.grew {w : World} {hb k gl lc : Nat} {A : AH} {fp : List Nat} {wr wx : World} (h : Fl2 w hb k gl lc A fp wr) (g : Grew wr wx) : Fl2 w hb k gl lc A fp wx := by
  obtain ⟨L, h1, h2, h3, h4⟩ := h
  exact ⟨L, h1.grew g, h2, h3.trans g (fun _ _ f => f), h4.kept g (fun _ _ f => f)⟩
def Fl3 (w : World) (hb k gl lc : Nat) (L : List Int) (i : Nat) (wr : World) : Prop :=
  ∃ A fp, PH wr hb A fp ∧ Ch k L i A ∧ Grew w wr ∧ (∀ b ∈ fp, w.heap.size ≤ b) ∧ gl ∉ fp ∧ gl < wr.heap.size ∧ Ow wr (.slice (some ⟨gl, 0, none⟩) k lc) L

def Fl4 (w : World) (hb k gl lc : Nat) (L : List Int) (ring : Bool) (wr : World) : Prop :=
  ∃ A fp, PH wr hb A fp ∧ Res k L ring A ∧ L.length = k ∧ Grew w wr ∧ Ow wr (.slice (some ⟨gl, 0, none⟩) k lc) L
theorem Fl4.grew {w : World} {hb k gl lc : Nat} {L : List Int} {ring : Bool} {wr wx : World} (h : Fl4 w hb k gl lc L ring wr) (g : Grew wr wx) : Fl4 w hb k gl lc L ring wx := by
  obtain ⟨A, fp, h1, h2, h3, h4, h5⟩ := h
  exact ⟨A, fp, h1.grew g, h2, h3, h4.trans g (fun _ _ f => f), h5.kept g (fun _ _ f => f)⟩
theorem over_same {w : World} {hb : Nat} {A : AH} {fp : List Nat} (h : PH w hb A fp) (x : Int) :
    Calls Try.prog 39 #[.pointer (some ⟨hb, 0, none⟩), .int .i64 x, .int .i64 x] w fun e w' => e = .returned (.bool false) ∧ w = w' := by
  refine (over_any h x x).mono ?_
  intro e w' hp
  unfold OverPost at hp
  rw [if_neg (fun h => h.2.2 rfl)] at hp
  exact hp

/-! ### STEP 1: THE WALK -/
set_option maxHeartbeats 8000000 in
set_option maxRecDepth 100000 in
theorem walk (a0 : Int) (a1 : Option Addr) (len1 cap1 : Nat) (z1 : List Int) (a2 : Bool) (w : World) (w0 : (Lit.int .i64 a0).wf = true) (w1 : IsRow .i64 w a1 len1 cap1 z1) :
    Calls Try.prog 14 #[.int .i64 a0, .slice a1 len1 cap1, .bool a2] w fun e w' => e = .returned (.bool true) ∧ Below w.heap.size w w' := by
  have hr1 : RowIn w a1 len1 cap1 := by
    rcases w1 with ⟨_, h, _⟩ | ⟨x, h1, h2, h3, h4, h5, _⟩
    · exact ⟨by simp [h], fun i hi => by omega⟩
    · exact ⟨by omega, fun i hi => ⟨x, _, h1, h2, h5 i (by omega)⟩⟩
  have HR := hid hr1
  have hlm := hr1.1
  unfold maxLen at hlm
  clear w0 w1 hr1
  obtain ⟨q, hq, hq12⟩ : ∃ q : Nat, a0 % 12 = q ∧ q < 12 := ⟨(a0 % 12).toNat, by omega, by omega⟩
  have hk1 := fun w => within11_any a0 12 w (by omega) (by omega)
  rw [hq] at hk1
  have hkw := known11_any w
  clear hq
  go_enter Try.func14, Try.ntmps14
  go_wp2_with fail
  refine hkw.mono ?_
  rintro e w1 ⟨rfl, g1⟩
  have HG := hid g1
  clear g1 hkw
  go_wp2_with fail
  refine (hk1 _).mono ?_
  rintro e w' ⟨rfl, rfl⟩
  clear hk1
  go_wp2_with fail
  refine (new_any _ _).mono ?_
  rintro e w2 ⟨hb, fp, rfl, p2, g2, b2⟩
  have HS := hid (show Fl1 w hb 0 (.slice none 0 0) w2 from ⟨_, fp, p2, thunks_zero, HG.out.trans g2 (fun _ _ f => f), fun b hb' => Nat.le_trans HG.out.size (b2 b hb'), Ow.nil w2, fun g hg => (by cases hg)⟩)
  clear p2 g2 b2 HG
  obtain ⟨k, hkq⟩ : ∃ k : Nat, (2 : Int) + q = k := ⟨2 + q, by omega⟩
  have hk2 : 2 ≤ k := by omega
  have hk13 : k ≤ 13 := by omega
  rw [hkq]
  clear hkq hq12
  go_wp2
  go_loopw [9, 10] (fun lv i wr => ∃ j : Nat, j ≤ k ∧ i = .int .i64 j ∧ Fl1 w hb j lv wr) (fun _ i _ => k - (intOf i).toNat)
  case atStart => exact ⟨0, Nat.zero_le _, rfl, HS.out⟩
  case round =>
    clear HS
    obtain ⟨j, hj, rfl, A, fp, r1, r2, r3, r4, r5⟩ := hrel
    by_cases hlt : j < k
    · have ok := thunks_ok r2 (by omega)
      have hnx := thunks_add r2 (by omega)
      have hev : evens j ++ [2 * (j : Int)] = evens (j + 1) := by unfold evens; rw [List.range_succ, List.map_append]; rfl
      have H := hid (And.intro ok (And.intro hnx (And.intro hev (And.intro r2.1 r2.2.1))))
      have HR1 := hid (And.intro r1 (And.intro r3 (And.intro r4 r5)))
      clear ok hnx hev r1 r2 r3 r4 r5
      go_wp2_with fail
      obtain ⟨r1, r3, r4, r5⟩ := HR1.out
      have g0 := Grew.alloc wr (.cells #[.int .i64 (j : Int)] 3)
      refine (alloc_yes (r1.grew g0) H.out.2.2.2.1 4 (Ow.nil _) (Ow.one wr j) H.out.1).mono ?_
      intro e w6 hp
      obtain ⟨rfl, fp6, p6, g6, b6, f6, n6⟩ := rel_made H.out.2.2.2.2 (r3.trans g0 (fun _ _ f => f)) r4 hp
      have r6 := (r5.grew g0).made f6 n6
      have g7 := Grew.alloc w6 (.cells #[.int .i64 (2 * (j : Int))] 3)
      obtain ⟨v', w', happ, r9, f9, _⟩ := (r6.grew g7).app ((g6.trans g7 (fun _ _ f => f)).size) (p6.grew g7).lt (Ow.one w6 (2 * (j : Int))) (by rw [evens_len]; simp; omega) 22
      rw [H.out.2.2.1] at r9
      have HREL := hid (show Fl1 w hb (j + 1) v' w' from ⟨_, fp6, (p6.grew g7).kept f9 (fun b hb' e => (r6.own b e).2 hb'), H.out.2.1, grew_step (g6.trans g7 (fun _ _ f => f)) f9 (fun i hi => (r6.own i hi).1), b6, r9⟩)
      have HAPP := hid happ
      clear r1 r3 r4 r5 g0 hp p6 g6 b6 f6 n6 r6 g7 happ r9 f9 HR1 H
      go_wp2_with (at_builtin; refine wpList_app rfl rfl rfl rfl HAPP.out ?_)
      go_roundw
      case rel => exact ⟨j + 1, by omega, by go_num, HREL.out⟩
      case measure => simp [intOf]; omega
    · have hjk : j = k := by omega
      subst hjk
      obtain ⟨gl, lc, rfl, hlc, _, hglt, _⟩ := r5.ow.at (by rw [evens_len]; omega)
      have hog := r5.own gl rfl
      rw [evens_len] at hlc
      have HS := hid (show Fl2 w hb j gl lc A fp wr from ⟨evens j, r1, Mixed.start j, r3, by have h := r5.ow; rw [evens_len] at h; exact h⟩)
      have HA := hid (And.intro r2 (And.intro r4 hog))
      rw [evens_len]
      obtain ⟨k, hk⟩ : ∃ k, k = j := ⟨j, rfl⟩
      subst hk
      clear r1 r2 r3 r4 r5 hlt hj hog hglt
      go_wp2
      go_loopw [13] (fun i wr => ∃ j : Nat, j ≤ 30 ∧ j ≤ len1 ∧ i = .int .i64 j ∧ Fl2 w hb k gl lc A fp wr) (fun i _ => 30 - (intOf i).toNat)
      case atStart => exact ⟨0, by omega, Nat.zero_le _, rfl, HS.out⟩
      case round =>
        clear HS
        obtain ⟨i, hi, hil, rfl, hT⟩ := hrel
        by_cases hlt : i < len1 ∧ i < 30
        · obtain ⟨hlt1, hlt2⟩ := hlt
          obtain ⟨L, s1, s2, s3, s4⟩ := hT
          obtain ⟨x, v, rfl, hcap, hc⟩ := HR.out.2 i hlt1
          replace hc := s3.cell hc (fun f => f)
          obtain ⟨m, hm⟩ : ∃ m, i % k = m := ⟨_, rfl⟩
          have hmk : m < k := by rw [← hm]; exact Nat.mod_lt _ (by omega)
          obtain ⟨mj, hmj, hmjk⟩ : ∃ j : Nat, v % (k : Int) = j ∧ j < k := by
            have h1 := Int.emod_nonneg v (show (k : Int) ≠ 0 by omega)
            have h2 := Int.emod_lt_of_pos v (show (0 : Int) < (k : Int) by omega)
            exact ⟨(v % (k : Int)).toNat, by omega, by omega⟩
          have hwj := fun w => within11_any v (k : Int) w (by omega) (by omega)
          rw [hmj] at hwj
          have hkz : ¬ k = 0 := by omega
          have hrm : (i : Int).tmod (k : Int) = (m : Int) := by rw [← hm]; rw [Int.tmod_eq_emod_of_nonneg (by omega)]; rfl
          have HT := hid (And.intro s1 (And.intro s2 (And.intro s3 s4)))
          clear s1 s2 s3 s4 hm hmj
          go_wp2
          refine wp_region_facts 11 Grew [(53, Ex (Kv i)), (54, Ex (Kv k)), (55, Ex (Kv m)), (56, Ex (.slice (some x) len1 cap1)), (57, Ex (Kv i)), (58, Ex (.pointer (some (x.add i)))), (59, Ex (Kv v)), (60, Ex (Kv k)), (61, Ex (Kv mj)), (14, Ex (Kv m)), (15, Ex (Kv mj))] (by kernel_rfl) (by kernel_rfl) (by rfl) (by rfl)
            (fun a => Fr.refl _ a) (fun a b c h k => h.trans k (fun _ _ f => f)) (Fr.refl _ _).drew
            (Stays.all ⟨Ex.stays _, Ex.stays _, Ex.stays _, Ex.stays _, Ex.stays _, Ex.stays _, Ex.stays _, Ex.stays _, Ex.stays _, Ex.stays _, Ex.stays _, trivial⟩) ?_ ?_
          · go_light
            refine OpGoals.cons (OpGoal.plain rfl ?_) (OpGoals.cons (OpGoal.plain rfl ?_) (OpGoals.cons (OpGoal.plain rfl ?_) (OpGoals.cons (OpGoal.plain rfl ?_) (OpGoals.cons (OpGoal.plain rfl ?_) (OpGoals.cons (OpGoal.plain rfl ?_) (OpGoals.cons (OpGoal.plain rfl ?_) (OpGoals.cons (OpGoal.plain rfl ?_) (OpGoals.cons (OpGoal.plain rfl ?_) (OpGoals.cons (OpGoal.plain rfl ?_) (OpGoals.cons (OpGoal.plain rfl ?_) OpGoals.none))))))))))
            all_goals (intro a' w' hS hR; simp [Rd, Op.operands, Call.operands, Fk, Ex] at hR)
            all_goals (have hc' := hS.cell hc (fun f => f))
            all_goals try (simp [Yields, execOp, Act.eval, hR, hc', hlt1, go_sem, Fk, Ex, Fr.refl]; done)
            · simp [Yields, execOp, Act.eval, hR, hkz, hrm, go_sem, Fk, Ex, Fr.refl]
            · simp [Yields, Act.eval, hR, go_sem, Fk, Ex]
              refine (hwj _).mono ?_
              rintro e w2 ⟨rfl, rfl⟩
              exact ⟨_, rfl, rfl, Fr.refl _ _⟩
          · intro w6 hS
            rintro _ rfl _ rfl _ rfl _ rfl _ rfl _ rfl _ rfl _ rfl _ rfl _ rfl _ rfl
            refine Then.nil ?_
            clear hwj hkz hrm
            go_wp2
            have HT6 := hid (And.intro (HT.out.1.grew hS) (And.intro HT.out.2.1 (And.intro (HT.out.2.2.1.trans hS (fun _ _ f => f)) (HT.out.2.2.2.kept hS (fun _ _ f => f)))))
            clear HT hS hc hcap
            have hll : L.length = k := HT6.out.2.1.len
            obtain ⟨g, c, he, _, _, hgl6, hcl⟩ := HT6.out.2.2.2.at (by omega)
            simp only [Value.slice.injEq, Option.some.injEq, Addr.mk.injEq] at he
            obtain ⟨⟨rfl, -⟩, -, rfl⟩ := he
            have hmL : m < L.length := by omega
            have hjL : mj < L.length := by omega
            have hcm := (hcl m hmL).1
            have hcj := (hcl mj hjL).1
            have hsw := HT6.out.2.1.swap hmL hjL
            have hset : (L.set m (L[mj]'hjL))[mj]'(by rw [List.length_set]; exact hjL) = L[mj]'hjL := by rw [List.getElem_set]; split <;> rfl
            obtain ⟨lm, hlm⟩ : ∃ v, L[m]'hmL = v := ⟨_, rfl⟩
            obtain ⟨lj, hlj⟩ : ∃ v, L[mj]'hjL = v := ⟨_, rfl⟩
            rw [hlm] at hcm hsw
            rw [hlj] at hcj hsw hset
            have HW := hid (And.intro hsw (And.intro hlm hset))
            have how := HT6.out.2.2.2
            rw [← hll] at how
            have hfm : w6.frozen? ⟨gl, m, none⟩ = false := (hcl m hmL).2
            have o1 := how.set m lj
            have o2 := o1.set mj lm
            obtain ⟨_, _, he, _, _, _, hcl2⟩ := o1.at (by rw [List.length_set]; omega)
            cases he
            obtain ⟨hcj7, hfj7⟩ := hcl2 mj (by rw [List.length_set]; exact hjL)
            rw [HW.out.2.2] at hcj7
            have hF : Fr (fun b => b = gl) w6 ((w6.setCell ⟨gl, m, none⟩ (.int .i64 lj)).setCell ⟨gl, mj, none⟩ (.int .i64 lm)) :=
              ((Fr.refl (fun b => b = gl) w6).setCell (p := ⟨gl, m, none⟩) (fun _ => rfl) _).setCell (p := ⟨gl, mj, none⟩) (fun _ => rfl) _
            have HREL := hid (show Fl2 w hb k gl lc A fp ((w6.setCell ⟨gl, m, none⟩ (.int .i64 lj)).setCell ⟨gl, mj, none⟩ (.int .i64 lm)) from
              ⟨_, HT6.out.1.kept hF (fun b hb' e => HA.out.2.2.2 (e ▸ hb')), HW.out.1, grew_step HT6.out.2.2.1 hF (fun b e => by subst e; exact HA.out.2.2.1), by
                have h := o2
                rw [List.length_set, List.length_set, hll] at h
                exact h⟩)
            clear hcl hcl2 how o1 o2 hF HT6 HW hsw hset hlm hlj hll hmL hjL
            go_region
            go_wp2
            go_roundw
            case rel => exact ⟨i + 1, by omega, by omega, by go_num, HREL.out.grew ((Fr.refl _ _).drewN _)⟩
            case measure => simp [intOf]; omega
        · have hor : ¬ i < len1 ∨ (i < len1 ∧ ¬ i < 30) := by by_cases h : i < len1 <;> simp_all
          obtain ⟨L, s1, s2, s3, s4⟩ := hT
          have hglt : gl < wr.heap.size := s4.lt rfl
          have HS := hid (show Fl3 w hb k gl lc L 0 wr from ⟨A, fp, s1, Ch.start HA.out.1 s2, s3, HA.out.2.1, HA.out.2.2.2, hglt, s4⟩)
          clear s1 s2 s3 s4 hlt hglt HA HR
          rcases hor with hlt1 | ⟨hlt1, hlt2⟩
          · skip
            go_wp2
            clear hlt1
            go_loopw [16] (fun i wr => ∃ j : Nat, j + 1 ≤ k ∧ i = .int .i64 j ∧ Fl3 w hb k gl lc L j wr) (fun i _ => k - (intOf i).toNat)
            case atStart => exact ⟨0, by omega, rfl, HS.out⟩
            case round =>
              clear HS
              obtain ⟨i, hi, rfl, A, fp, t1, t2, t3, t4, t5, t6, t7⟩ := hrel
              have hll : L.length = k := t2.mixed.len
              obtain ⟨g, c, he, _, _, _, hcl⟩ := t7.at (by omega)
              simp only [Value.slice.injEq, Option.some.injEq, Addr.mk.injEq] at he
              obtain ⟨⟨rfl, -⟩, -, rfl⟩ := he
              have hgf : ¬ (gl ∈ fp ∨ wr.heap.size ≤ gl) := fun h => h.elim t5 (fun h => by omega)
              by_cases hlt : i + 1 < k
              · have ok := t2.ok (by omega) (show i < L.length by omega) (show i + 1 < L.length by omega) (by omega)
                have hst := t2.step (m := i) (by omega)
                have hci := (hcl i (by omega)).1
                have hcj := (hcl (i + 1) (by omega)).1
                generalize L[i]'(by omega) = li at *
                generalize L[i + 1]'(by omega) = lj at *
                obtain ⟨i1, hi1e⟩ : ∃ n, i + 1 = n := ⟨_, rfl⟩
                rw [hi1e] at hcj
                have hi1 : IntKind.i64.wrap ((i : Int) + 1) = (i1 : Int) := by rw [← hi1e]; exact IntWalk.i64_in _ (by omega)
                have hik : i < k := by omega
                have hi1k : i1 < k := by omega
                have hltI : (i : Int) + 1 < k := by omega
                have hRR : ∀ a, OSt hb A (A.over li lj) fp wr.heap.size a a := fun a => OSt.grew _ _ _ _ _ (Fr.refl _ a)
                have HA := hid (And.intro t1 (And.intro hst (And.intro t3 (And.intro t4 (And.intro t6 t7)))))
                clear t1 t2 t3 t4 t5 t6 t7 hst hcl
                go_wp2
                refine wp_region_facts 12 (OSt hb A (A.over li lj) fp wr.heap.size) [(82, Ex (.pointer (some ⟨hb, 0, none⟩))), (83, Ex (.slice (some ⟨gl, 0, none⟩) k lc)), (84, Ex (Kv i)), (85, Ex (.pointer (some ⟨gl, i, none⟩))), (86, Ex (Kv li)), (87, Ex (.slice (some ⟨gl, 0, none⟩) k lc)), (88, Ex (Kv i)), (89, Ex (Kv i1)), (90, Ex (.pointer (some ⟨gl, i1, none⟩))), (91, Ex (Kv lj)), (92, FOver hb (A.over li lj) fp wr.heap.size), (93, Ex (.bool false))] (by kernel_rfl) (by kernel_rfl) (by rfl) (by rfl)
                  (fun a => OSt.grew _ _ _ _ _ (Fr.refl _ a)) (fun a b c h k => h.trans k) (OSt.grew _ _ _ _ _ (Fr.refl _ _).drew)
                  (Stays.all ⟨Ex.stays _, Ex.stays _, Ex.stays _, Ex.stays _, Ex.stays _, Ex.stays _, Ex.stays _, Ex.stays _, Ex.stays _, Ex.stays _, FOver.stays, Ex.stays _, trivial⟩) ?_ ?_
                · go_light
                  refine OpGoals.cons (OpGoal.plain rfl ?_) (OpGoals.cons (OpGoal.plain rfl ?_) (OpGoals.cons (OpGoal.plain rfl ?_) (OpGoals.cons (OpGoal.plain rfl ?_) (OpGoals.cons (OpGoal.plain rfl ?_) (OpGoals.cons (OpGoal.plain rfl ?_) (OpGoals.cons (OpGoal.plain rfl ?_) (OpGoals.cons (OpGoal.plain rfl ?_) (OpGoals.cons (OpGoal.plain rfl ?_) (OpGoals.cons (OpGoal.plain rfl ?_) (OpGoals.cons (OpGoal.plain rfl ?_) (OpGoals.cons (OpGoal.plain rfl ?_) OpGoals.none)))))))))))
                  all_goals (intro a' w' hS hR; simp [Rd, Op.operands, Call.operands, Fk, Ex] at hR)
                  all_goals (have hci' := hS.fr.cell hci hgf)
                  all_goals (have hcj' := hS.fr.cell hcj hgf)
                  all_goals try (simp [Yields, execOp, Act.eval, hR, hci', hcj', hik, hi1k, hi1, hRR, go_sem, Fk, Ex]; done)
                  · simp [Yields, Act.eval, hR, go_sem, Fk, Ex]
                    refine (over_either HA.out.1 hS (Nat.le_refl _) ok).mono ?_
                    rintro e w2 ⟨rfl, h1, h2⟩
                    exact ⟨_, rfl, h1, h2⟩
                  · obtain ⟨e, _⟩ := hR
                    simp [Yields, execOp, Act.eval, e, go_sem, Fk, Ex]
                    exact OSt.grew _ _ _ _ _ (Fr.refl _ _)
                · intro w6 hS
                  rintro _ rfl _ rfl _ rfl _ rfl _ rfl _ rfl _ rfl _ rfl _ rfl _ rfl v92 f92 _ rfl
                  refine Then.nil ?_
                  obtain ⟨_, f', q1, q2⟩ := f92
                  have HREL := hid (show Fl3 w hb k gl lc L (i + 1) w6 from ⟨_, f', q1, HA.out.2.1, grew_step HA.out.2.2.1 hS.fr (fun b e => e.elim (HA.out.2.2.2.1 b) (fun h => by have := HA.out.2.2.1.size; omega)),
                    fun b hb' => (q2 b hb').elim (HA.out.2.2.2.1 b) (fun h => by have := HA.out.2.2.1.size; omega), fun hm => (q2 gl hm).elim (fun h => hgf (.inl h)) (fun h => hgf (.inr h)), hS.fr.lt HA.out.2.2.2.2.1,
                    HA.out.2.2.2.2.2.kept hS.fr (fun g hg => by cases hg; exact hgf)⟩)
                  clear q1 q2 hS HA hci hcj hgf hRR ok hi1
                  go_wp2
                  go_roundw
                  case rel => exact ⟨i + 1, by omega, by go_num, HREL.out⟩
                  case measure => simp [intOf]; omega
              · have hik1 : i + 1 = k := by omega
                have hltI : ¬ (i : Int) + 1 < k := by omega
                cases a2 with
                | false =>
                  have hres := t2.done hk2 hik1
                  have HA := hid (And.intro t1 (And.intro hres (And.intro t3 t7)))
                  clear t1 t2 t3 t4 t5 t6 t7 hres hcl hgf
                  have HF := hid (show Fl4 w hb k gl lc L false wr from ⟨A, fp, HA.out.1, HA.out.2.1, hll, HA.out.2.2.1, HA.out.2.2.2⟩)
                  clear HA hll
                  go_upto_region 23 with (fail)
                  go_quiet (fail)
                  clear hltI hik1 hi
                  go_wp2
                  go_loopw [17] (fun i wx => ∃ j : Nat, j ≤ k ∧ i = .int .i64 j ∧ Fl4 w hb k gl lc L false wx) (fun i _ => k - (intOf i).toNat)
                  case atStart => exact ⟨0, by omega, rfl, HF.out.grew ((Fr.refl _ _).drewN _)⟩
                  case round =>
                    clear HF
                    obtain ⟨j, hj, rfl, B, fq, u1, u2, hll, u3, u4⟩ := hrel
                    obtain ⟨g, c, he, _, _, _, hcl⟩ := u4.at (by omega)
                    simp only [Value.slice.injEq, Option.some.injEq, Addr.mk.injEq] at he
                    obtain ⟨⟨rfl, -⟩, -, rfl⟩ := he
                    by_cases hjk : j < k
                    · obtain ⟨kp, hkp⟩ : ∃ kp, k - 1 = kp := ⟨_, rfl⟩
                      have hkpk : kp < k := by omega
                      have hidx : (k : Int) - 1 = (kp : Int) := by omega
                      have hjL : j < L.length := by omega
                      have hkL : kp < L.length := by omega
                      have hcj := (hcl j hjL).1
                      have hck := (hcl kp hkL).1
                      have hfo := u2.follow j hjL
                      have htg := u2.tag j hjL
                      have hgd : L.getD (k - 1) 0 = L[kp]'hkL := by rw [hkp, List.getD_eq_getElem?_getD, List.getElem?_eq_getElem hkL]; rfl
                      rw [hgd] at hfo
                      obtain ⟨lj, hlj⟩ : ∃ v, L[j]'hjL = v := ⟨_, rfl⟩
                      obtain ⟨lk, hlk⟩ : ∃ v, L[kp]'hkL = v := ⟨_, rfl⟩
                      rw [hlj] at hcj hfo htg
                      rw [hlk] at hck hfo
                      have hfx := followI u1 u2.wf hfo
                      have hrr : (lk != lk) = false := by simp
                      have HN := hid (show Fl4 w hb k gl lc L false _ from ⟨B, fq, u1, u2, hll, u3, u4⟩)
                      by_cases hj1 : j + 1 < k
                      · have htx := tagI u1 (htg.trans (if_pos (.inl hj1)))
                        have hj1I : (j : Int) + 1 < k := by omega
                        clear u1 u2 u3 u4 hcl hll hgd hlj hlk hfo htg hjL hkL hkp
                        go_wp2_with (first | (go_at_call 34; refine hfx.mono ?_; rintro e w' ⟨rfl, rfl⟩) | (go_at_call 26; refine htx.mono ?_; rintro e w' ⟨rfl, rfl⟩))
                        go_roundw
                        case rel => exact ⟨j + 1, by omega, by go_num, HN.out⟩
                        case measure => simp [intOf]; omega
                      · have htx := tagI u1 (htg.trans (if_neg (by simp; omega)))
                        have hj1I : ¬ (j : Int) + 1 < k := by omega
                        clear u1 u2 u3 u4 hcl hll hgd hlj hlk hfo htg hjL hkL hkp
                        go_wp2_with (first | (go_at_call 34; refine hfx.mono ?_; rintro e w' ⟨rfl, rfl⟩) | (go_at_call 26; refine htx.mono ?_; rintro e w' ⟨rfl, rfl⟩))
                        go_roundw
                        case rel => exact ⟨j + 1, by omega, by go_num, HN.out⟩
                        case measure => simp [intOf]; omega
                    · have h0L : 0 < L.length := by omega
                      have hc0 := (hcl 0 h0L).1
                      obtain ⟨l0, hl0⟩ : ∃ v, L[0]'h0L = v := ⟨_, rfl⟩
                      rw [hl0] at hc0
                      have h0k : 0 < k := by omega
                      have hus := fun n => usedI (u1.grew ((Fr.refl (fun _ => False) _).drewN n)) u2.used
                      have hov := fun n => over_same (u1.grew ((Fr.refl (fun _ => False) _).drewN n)) l0
                      have HG := hid u3
                      clear u1 u2 u3 u4 hcl hll hl0 h0L
                      go_wp2
                      go_quiet (first | (go_at_call 27; exact quiet_same (hus _)) | (go_at_call 39; exact quiet_same (hov _)))
                      go_wp2
                      go_ret
                      exact ⟨rfl, (HG.out.drewN _).below⟩
                | true =>
                  obtain ⟨ok, hres⟩ := t2.ring hk2 hik1 (by omega) (by omega)
                  have hci := (hcl i (by omega)).1
                  have hcj := (hcl 0 (by omega)).1
                  have hlk : L[k - 1]'(by omega) = L[i]'(by omega) := by congr 1; omega
                  rw [hlk] at ok hres
                  generalize L[i]'(by omega) = li at *
                  generalize L[0]'(by omega) = lj at *
                  have hi1 : IntKind.i64.wrap ((k : Int) - 1) = (i : Int) := by rw [← hik1]; rw [IntWalk.i64_in _ (by omega)]; omega
                  have hik : i < k := by omega
                  have h0k : 0 < k := by omega
                  have hRR : ∀ a, OSt hb A (A.over li lj) fp wr.heap.size a a := fun a => OSt.grew _ _ _ _ _ (Fr.refl _ a)
                  have HA := hid (And.intro t1 (And.intro hres (And.intro t3 (And.intro t4 (And.intro t6 t7)))))
                  clear t1 t2 t3 t4 t5 t6 t7 hres hcl hlk
                  go_wp2
                  refine wp_region_facts 14 (OSt hb A (A.over li lj) fp wr.heap.size) [(94, Ex (.bool true)), (95, Ex (.bool true)), (96, Ex (.pointer (some ⟨hb, 0, none⟩))), (97, Ex (.slice (some ⟨gl, 0, none⟩) k lc)), (98, Ex (Kv k)), (99, Ex (Kv i)), (100, Ex (.pointer (some ⟨gl, i, none⟩))), (101, Ex (Kv li)), (102, Ex (.slice (some ⟨gl, 0, none⟩) k lc)), (103, Ex (.pointer (some ⟨gl, 0, none⟩))), (104, Ex (Kv lj)), (105, FOver hb (A.over li lj) fp wr.heap.size), (106, Ex (.bool false)), (107, Ex (.bool false))] (by kernel_rfl) (by kernel_rfl) (by rfl) (by rfl)
                    (fun a => OSt.grew _ _ _ _ _ (Fr.refl _ a)) (fun a b c h k => h.trans k) (OSt.grew _ _ _ _ _ (Fr.refl _ _).drew)
                    (Stays.all ⟨Ex.stays _, Ex.stays _, Ex.stays _, Ex.stays _, Ex.stays _, Ex.stays _, Ex.stays _, Ex.stays _, Ex.stays _, Ex.stays _, Ex.stays _, FOver.stays, Ex.stays _, Ex.stays _, trivial⟩) ?_ ?_
                  · go_light
                    refine OpGoals.cons (OpGoal.plain rfl ?_) (OpGoals.cons (OpGoal.plain rfl ?_) (OpGoals.cons (OpGoal.guarded (d := 95) (want := true) rfl (fun _ _ h => h) ?_) (OpGoals.cons (OpGoal.guarded (d := 95) (want := true) rfl (fun _ _ h => h) ?_) (OpGoals.cons (OpGoal.guarded (d := 95) (want := true) rfl (fun _ _ h => h) ?_) (OpGoals.cons (OpGoal.guarded (d := 95) (want := true) rfl (fun _ _ h => h) ?_) (OpGoals.cons (OpGoal.guarded (d := 95) (want := true) rfl (fun _ _ h => h) ?_) (OpGoals.cons (OpGoal.guarded (d := 95) (want := true) rfl (fun _ _ h => h) ?_) (OpGoals.cons (OpGoal.guarded (d := 95) (want := true) rfl (fun _ _ h => h) ?_) (OpGoals.cons (OpGoal.guarded (d := 95) (want := true) rfl (fun _ _ h => h) ?_) (OpGoals.cons (OpGoal.guarded (d := 95) (want := true) rfl (fun _ _ h => h) ?_) (OpGoals.cons (OpGoal.guarded (d := 95) (want := true) rfl (fun _ _ h => h) ?_) (OpGoals.cons (OpGoal.guarded (d := 95) (want := true) rfl (fun _ _ h => h) ?_) (OpGoals.cons (OpGoal.plain rfl ?_) OpGoals.none)))))))))))))
                    all_goals (intro a' w' hS hR; simp [Rd, Op.operands, Call.operands, Fk, Ex] at hR)
                    all_goals (have hci' := hS.fr.cell hci hgf)
                    all_goals (have hcj' := hS.fr.cell hcj hgf)
                    all_goals try (simp [Yields, execOp, Act.eval, hR, hci', hcj', hik, h0k, hi1, hRR, go_sem, Fk, Ex]; done)
                    · simp [Yields, Act.eval, hR, go_sem, Fk, Ex]
                      refine (over_either HA.out.1 hS (Nat.le_refl _) ok).mono ?_
                      rintro e w2 ⟨rfl, h1, h2⟩
                      exact ⟨_, rfl, h1, h2⟩
                    · obtain ⟨e, _⟩ := hR
                      simp [Yields, execOp, Act.eval, e, go_sem, Fk, Ex]
                      exact OSt.grew _ _ _ _ _ (Fr.refl _ _)
                  · intro w6 hS
                    rintro _ rfl _ rfl _ rfl _ rfl _ rfl _ rfl _ rfl _ rfl _ rfl _ rfl _ rfl v105 f105 _ rfl _ rfl
                    refine Then.nil ?_
                    obtain ⟨_, f', q1, q2⟩ := f105
                    have HF := hid (show Fl4 w hb k gl lc L true w6 from ⟨_, f', q1, HA.out.2.1, hll, grew_step HA.out.2.2.1 hS.fr (fun b e => e.elim (HA.out.2.2.2.1 b) (fun h => by have := HA.out.2.2.1.size; omega)), HA.out.2.2.2.2.2.kept hS.fr (fun g hg => by cases hg; exact hgf)⟩)
                    clear q1 q2 hS HA hll hci hcj hgf hRR ok hi1 h0k hik
                    clear hltI hik1 hi
                    go_wp2
                    go_loopw [17] (fun i wx => ∃ j : Nat, j ≤ k ∧ i = .int .i64 j ∧ Fl4 w hb k gl lc L true wx) (fun i _ => k - (intOf i).toNat)
                    case atStart => exact ⟨0, by omega, rfl, HF.out⟩
                    case round =>
                      clear HF
                      obtain ⟨j, hj, rfl, B, fq, u1, u2, hll, u3, u4⟩ := hrel
                      obtain ⟨g, c, he, _, _, _, hcl⟩ := u4.at (by omega)
                      simp only [Value.slice.injEq, Option.some.injEq, Addr.mk.injEq] at he
                      obtain ⟨⟨rfl, -⟩, -, rfl⟩ := he
                      by_cases hjk : j < k
                      · obtain ⟨kp, hkp⟩ : ∃ kp, k - 1 = kp := ⟨_, rfl⟩
                        have hkpk : kp < k := by omega
                        have hidx : (k : Int) - 1 = (kp : Int) := by omega
                        have hjL : j < L.length := by omega
                        have hkL : kp < L.length := by omega
                        have hcj := (hcl j hjL).1
                        have hck := (hcl kp hkL).1
                        have hfo := u2.follow j hjL
                        have htg := u2.tag j hjL
                        have hgd : L.getD (k - 1) 0 = L[kp]'hkL := by rw [hkp, List.getD_eq_getElem?_getD, List.getElem?_eq_getElem hkL]; rfl
                        rw [hgd] at hfo
                        obtain ⟨lj, hlj⟩ : ∃ v, L[j]'hjL = v := ⟨_, rfl⟩
                        obtain ⟨lk, hlk⟩ : ∃ v, L[kp]'hkL = v := ⟨_, rfl⟩
                        rw [hlj] at hcj hfo htg
                        rw [hlk] at hck hfo
                        have hfx := followI u1 u2.wf hfo
                        have hrr : (lk != lk) = false := by simp
                        have HN := hid (show Fl4 w hb k gl lc L true _ from ⟨B, fq, u1, u2, hll, u3, u4⟩)
                        by_cases hj1 : j + 1 < k
                        · have htx := tagI u1 (htg.trans (if_pos (.inl hj1)))
                          have hj1I : (j : Int) + 1 < k := by omega
                          clear u1 u2 u3 u4 hcl hll hgd hlj hlk hfo htg hjL hkL hkp
                          go_wp2_with (first | (go_at_call 34; refine hfx.mono ?_; rintro e w' ⟨rfl, rfl⟩) | (go_at_call 26; refine htx.mono ?_; rintro e w' ⟨rfl, rfl⟩))
                          go_roundw
                          case rel => exact ⟨j + 1, by omega, by go_num, HN.out⟩
                          case measure => simp [intOf]; omega
                        · have htx := tagI u1 (htg.trans (if_pos (.inr rfl)))
                          have hj1I : ¬ (j : Int) + 1 < k := by omega
                          clear u1 u2 u3 u4 hcl hll hgd hlj hlk hfo htg hjL hkL hkp
                          go_wp2_with (first | (go_at_call 34; refine hfx.mono ?_; rintro e w' ⟨rfl, rfl⟩) | (go_at_call 26; refine htx.mono ?_; rintro e w' ⟨rfl, rfl⟩))
                          go_roundw
                          case rel => exact ⟨j + 1, by omega, by go_num, HN.out⟩
                          case measure => simp [intOf]; omega
                      · have h0L : 0 < L.length := by omega
                        have hc0 := (hcl 0 h0L).1
                        obtain ⟨l0, hl0⟩ : ∃ v, L[0]'h0L = v := ⟨_, rfl⟩
                        rw [hl0] at hc0
                        have h0k : 0 < k := by omega
                        have hus := fun n => usedI (u1.grew ((Fr.refl (fun _ => False) _).drewN n)) u2.used
                        have hov := fun n => over_same (u1.grew ((Fr.refl (fun _ => False) _).drewN n)) l0
                        have HG := hid u3
                        clear u1 u2 u3 u4 hcl hll hl0 h0L
                        go_wp2
                        go_quiet (first | (go_at_call 27; exact quiet_same (hus _)) | (go_at_call 39; exact quiet_same (hov _)))
                        go_wp2
                        go_ret
                        exact ⟨rfl, (HG.out.drewN _).below⟩
          · skip
            go_wp2
            clear hlt1
            go_loopw [16] (fun i wr => ∃ j : Nat, j + 1 ≤ k ∧ i = .int .i64 j ∧ Fl3 w hb k gl lc L j wr) (fun i _ => k - (intOf i).toNat)
            case atStart => exact ⟨0, by omega, rfl, HS.out⟩
            case round =>
              clear HS
              obtain ⟨i, hi, rfl, A, fp, t1, t2, t3, t4, t5, t6, t7⟩ := hrel
              have hll : L.length = k := t2.mixed.len
              obtain ⟨g, c, he, _, _, _, hcl⟩ := t7.at (by omega)
              simp only [Value.slice.injEq, Option.some.injEq, Addr.mk.injEq] at he
              obtain ⟨⟨rfl, -⟩, -, rfl⟩ := he
              have hgf : ¬ (gl ∈ fp ∨ wr.heap.size ≤ gl) := fun h => h.elim t5 (fun h => by omega)
              by_cases hlt : i + 1 < k
              · have ok := t2.ok (by omega) (show i < L.length by omega) (show i + 1 < L.length by omega) (by omega)
                have hst := t2.step (m := i) (by omega)
                have hci := (hcl i (by omega)).1
                have hcj := (hcl (i + 1) (by omega)).1
                generalize L[i]'(by omega) = li at *
                generalize L[i + 1]'(by omega) = lj at *
                obtain ⟨i1, hi1e⟩ : ∃ n, i + 1 = n := ⟨_, rfl⟩
                rw [hi1e] at hcj
                have hi1 : IntKind.i64.wrap ((i : Int) + 1) = (i1 : Int) := by rw [← hi1e]; exact IntWalk.i64_in _ (by omega)
                have hik : i < k := by omega
                have hi1k : i1 < k := by omega
                have hltI : (i : Int) + 1 < k := by omega
                have hRR : ∀ a, OSt hb A (A.over li lj) fp wr.heap.size a a := fun a => OSt.grew _ _ _ _ _ (Fr.refl _ a)
                have HA := hid (And.intro t1 (And.intro hst (And.intro t3 (And.intro t4 (And.intro t6 t7)))))
                clear t1 t2 t3 t4 t5 t6 t7 hst hcl
                go_wp2
                refine wp_region_facts 12 (OSt hb A (A.over li lj) fp wr.heap.size) [(82, Ex (.pointer (some ⟨hb, 0, none⟩))), (83, Ex (.slice (some ⟨gl, 0, none⟩) k lc)), (84, Ex (Kv i)), (85, Ex (.pointer (some ⟨gl, i, none⟩))), (86, Ex (Kv li)), (87, Ex (.slice (some ⟨gl, 0, none⟩) k lc)), (88, Ex (Kv i)), (89, Ex (Kv i1)), (90, Ex (.pointer (some ⟨gl, i1, none⟩))), (91, Ex (Kv lj)), (92, FOver hb (A.over li lj) fp wr.heap.size), (93, Ex (.bool false))] (by kernel_rfl) (by kernel_rfl) (by rfl) (by rfl)
                  (fun a => OSt.grew _ _ _ _ _ (Fr.refl _ a)) (fun a b c h k => h.trans k) (OSt.grew _ _ _ _ _ (Fr.refl _ _).drew)
                  (Stays.all ⟨Ex.stays _, Ex.stays _, Ex.stays _, Ex.stays _, Ex.stays _, Ex.stays _, Ex.stays _, Ex.stays _, Ex.stays _, Ex.stays _, FOver.stays, Ex.stays _, trivial⟩) ?_ ?_
                · go_light
                  refine OpGoals.cons (OpGoal.plain rfl ?_) (OpGoals.cons (OpGoal.plain rfl ?_) (OpGoals.cons (OpGoal.plain rfl ?_) (OpGoals.cons (OpGoal.plain rfl ?_) (OpGoals.cons (OpGoal.plain rfl ?_) (OpGoals.cons (OpGoal.plain rfl ?_) (OpGoals.cons (OpGoal.plain rfl ?_) (OpGoals.cons (OpGoal.plain rfl ?_) (OpGoals.cons (OpGoal.plain rfl ?_) (OpGoals.cons (OpGoal.plain rfl ?_) (OpGoals.cons (OpGoal.plain rfl ?_) (OpGoals.cons (OpGoal.plain rfl ?_) OpGoals.none)))))))))))
                  all_goals (intro a' w' hS hR; simp [Rd, Op.operands, Call.operands, Fk, Ex] at hR)
                  all_goals (have hci' := hS.fr.cell hci hgf)
                  all_goals (have hcj' := hS.fr.cell hcj hgf)
                  all_goals try (simp [Yields, execOp, Act.eval, hR, hci', hcj', hik, hi1k, hi1, hRR, go_sem, Fk, Ex]; done)
                  · simp [Yields, Act.eval, hR, go_sem, Fk, Ex]
                    refine (over_either HA.out.1 hS (Nat.le_refl _) ok).mono ?_
                    rintro e w2 ⟨rfl, h1, h2⟩
                    exact ⟨_, rfl, h1, h2⟩
                  · obtain ⟨e, _⟩ := hR
                    simp [Yields, execOp, Act.eval, e, go_sem, Fk, Ex]
                    exact OSt.grew _ _ _ _ _ (Fr.refl _ _)
                · intro w6 hS
                  rintro _ rfl _ rfl _ rfl _ rfl _ rfl _ rfl _ rfl _ rfl _ rfl _ rfl v92 f92 _ rfl
                  refine Then.nil ?_
                  obtain ⟨_, f', q1, q2⟩ := f92
                  have HREL := hid (show Fl3 w hb k gl lc L (i + 1) w6 from ⟨_, f', q1, HA.out.2.1, grew_step HA.out.2.2.1 hS.fr (fun b e => e.elim (HA.out.2.2.2.1 b) (fun h => by have := HA.out.2.2.1.size; omega)),
                    fun b hb' => (q2 b hb').elim (HA.out.2.2.2.1 b) (fun h => by have := HA.out.2.2.1.size; omega), fun hm => (q2 gl hm).elim (fun h => hgf (.inl h)) (fun h => hgf (.inr h)), hS.fr.lt HA.out.2.2.2.2.1,
                    HA.out.2.2.2.2.2.kept hS.fr (fun g hg => by cases hg; exact hgf)⟩)
                  clear q1 q2 hS HA hci hcj hgf hRR ok hi1
                  go_wp2
                  go_roundw
                  case rel => exact ⟨i + 1, by omega, by go_num, HREL.out⟩
                  case measure => simp [intOf]; omega
              · have hik1 : i + 1 = k := by omega
                have hltI : ¬ (i : Int) + 1 < k := by omega
                cases a2 with
                | false =>
                  have hres := t2.done hk2 hik1
                  have HA := hid (And.intro t1 (And.intro hres (And.intro t3 t7)))
                  clear t1 t2 t3 t4 t5 t6 t7 hres hcl hgf
                  have HF := hid (show Fl4 w hb k gl lc L false wr from ⟨A, fp, HA.out.1, HA.out.2.1, hll, HA.out.2.2.1, HA.out.2.2.2⟩)
                  clear HA hll
                  go_upto_region 23 with (fail)
                  go_quiet (fail)
                  clear hltI hik1 hi
                  go_wp2
                  go_loopw [17] (fun i wx => ∃ j : Nat, j ≤ k ∧ i = .int .i64 j ∧ Fl4 w hb k gl lc L false wx) (fun i _ => k - (intOf i).toNat)
                  case atStart => exact ⟨0, by omega, rfl, HF.out.grew ((Fr.refl _ _).drewN _)⟩
                  case round =>
                    clear HF
                    obtain ⟨j, hj, rfl, B, fq, u1, u2, hll, u3, u4⟩ := hrel
                    obtain ⟨g, c, he, _, _, _, hcl⟩ := u4.at (by omega)
                    simp only [Value.slice.injEq, Option.some.injEq, Addr.mk.injEq] at he
                    obtain ⟨⟨rfl, -⟩, -, rfl⟩ := he
                    by_cases hjk : j < k
                    · obtain ⟨kp, hkp⟩ : ∃ kp, k - 1 = kp := ⟨_, rfl⟩
                      have hkpk : kp < k := by omega
                      have hidx : (k : Int) - 1 = (kp : Int) := by omega
                      have hjL : j < L.length := by omega
                      have hkL : kp < L.length := by omega
                      have hcj := (hcl j hjL).1
                      have hck := (hcl kp hkL).1
                      have hfo := u2.follow j hjL
                      have htg := u2.tag j hjL
                      have hgd : L.getD (k - 1) 0 = L[kp]'hkL := by rw [hkp, List.getD_eq_getElem?_getD, List.getElem?_eq_getElem hkL]; rfl
                      rw [hgd] at hfo
                      obtain ⟨lj, hlj⟩ : ∃ v, L[j]'hjL = v := ⟨_, rfl⟩
                      obtain ⟨lk, hlk⟩ : ∃ v, L[kp]'hkL = v := ⟨_, rfl⟩
                      rw [hlj] at hcj hfo htg
                      rw [hlk] at hck hfo
                      have hfx := followI u1 u2.wf hfo
                      have hrr : (lk != lk) = false := by simp
                      have HN := hid (show Fl4 w hb k gl lc L false _ from ⟨B, fq, u1, u2, hll, u3, u4⟩)
                      by_cases hj1 : j + 1 < k
                      · have htx := tagI u1 (htg.trans (if_pos (.inl hj1)))
                        have hj1I : (j : Int) + 1 < k := by omega
                        clear u1 u2 u3 u4 hcl hll hgd hlj hlk hfo htg hjL hkL hkp
                        go_wp2_with (first | (go_at_call 34; refine hfx.mono ?_; rintro e w' ⟨rfl, rfl⟩) | (go_at_call 26; refine htx.mono ?_; rintro e w' ⟨rfl, rfl⟩))
                        go_roundw
                        case rel => exact ⟨j + 1, by omega, by go_num, HN.out⟩
                        case measure => simp [intOf]; omega
                      · have htx := tagI u1 (htg.trans (if_neg (by simp; omega)))
                        have hj1I : ¬ (j : Int) + 1 < k := by omega
                        clear u1 u2 u3 u4 hcl hll hgd hlj hlk hfo htg hjL hkL hkp
                        go_wp2_with (first | (go_at_call 34; refine hfx.mono ?_; rintro e w' ⟨rfl, rfl⟩) | (go_at_call 26; refine htx.mono ?_; rintro e w' ⟨rfl, rfl⟩))
                        go_roundw
                        case rel => exact ⟨j + 1, by omega, by go_num, HN.out⟩
                        case measure => simp [intOf]; omega
                    · have h0L : 0 < L.length := by omega
                      have hc0 := (hcl 0 h0L).1
                      obtain ⟨l0, hl0⟩ : ∃ v, L[0]'h0L = v := ⟨_, rfl⟩
                      rw [hl0] at hc0
                      have h0k : 0 < k := by omega
                      have hus := fun n => usedI (u1.grew ((Fr.refl (fun _ => False) _).drewN n)) u2.used
                      have hov := fun n => over_same (u1.grew ((Fr.refl (fun _ => False) _).drewN n)) l0
                      have HG := hid u3
                      clear u1 u2 u3 u4 hcl hll hl0 h0L
                      go_wp2
                      go_quiet (first | (go_at_call 27; exact quiet_same (hus _)) | (go_at_call 39; exact quiet_same (hov _)))
                      go_wp2
                      go_ret
                      exact ⟨rfl, (HG.out.drewN _).below⟩
                | true =>
                  obtain ⟨ok, hres⟩ := t2.ring hk2 hik1 (by omega) (by omega)
                  have hci := (hcl i (by omega)).1
                  have hcj := (hcl 0 (by omega)).1
                  have hlk : L[k - 1]'(by omega) = L[i]'(by omega) := by congr 1; omega
                  rw [hlk] at ok hres
                  generalize L[i]'(by omega) = li at *
                  generalize L[0]'(by omega) = lj at *
                  have hi1 : IntKind.i64.wrap ((k : Int) - 1) = (i : Int) := by rw [← hik1]; rw [IntWalk.i64_in _ (by omega)]; omega
                  have hik : i < k := by omega
                  have h0k : 0 < k := by omega
                  have hRR : ∀ a, OSt hb A (A.over li lj) fp wr.heap.size a a := fun a => OSt.grew _ _ _ _ _ (Fr.refl _ a)
                  have HA := hid (And.intro t1 (And.intro hres (And.intro t3 (And.intro t4 (And.intro t6 t7)))))
                  clear t1 t2 t3 t4 t5 t6 t7 hres hcl hlk
                  go_wp2
                  refine wp_region_facts 14 (OSt hb A (A.over li lj) fp wr.heap.size) [(94, Ex (.bool true)), (95, Ex (.bool true)), (96, Ex (.pointer (some ⟨hb, 0, none⟩))), (97, Ex (.slice (some ⟨gl, 0, none⟩) k lc)), (98, Ex (Kv k)), (99, Ex (Kv i)), (100, Ex (.pointer (some ⟨gl, i, none⟩))), (101, Ex (Kv li)), (102, Ex (.slice (some ⟨gl, 0, none⟩) k lc)), (103, Ex (.pointer (some ⟨gl, 0, none⟩))), (104, Ex (Kv lj)), (105, FOver hb (A.over li lj) fp wr.heap.size), (106, Ex (.bool false)), (107, Ex (.bool false))] (by kernel_rfl) (by kernel_rfl) (by rfl) (by rfl)
                    (fun a => OSt.grew _ _ _ _ _ (Fr.refl _ a)) (fun a b c h k => h.trans k) (OSt.grew _ _ _ _ _ (Fr.refl _ _).drew)
                    (Stays.all ⟨Ex.stays _, Ex.stays _, Ex.stays _, Ex.stays _, Ex.stays _, Ex.stays _, Ex.stays _, Ex.stays _, Ex.stays _, Ex.stays _, Ex.stays _, FOver.stays, Ex.stays _, Ex.stays _, trivial⟩) ?_ ?_
                  · go_light
                    refine OpGoals.cons (OpGoal.plain rfl ?_) (OpGoals.cons (OpGoal.plain rfl ?_) (OpGoals.cons (OpGoal.guarded (d := 95) (want := true) rfl (fun _ _ h => h) ?_) (OpGoals.cons (OpGoal.guarded (d := 95) (want := true) rfl (fun _ _ h => h) ?_) (OpGoals.cons (OpGoal.guarded (d := 95) (want := true) rfl (fun _ _ h => h) ?_) (OpGoals.cons (OpGoal.guarded (d := 95) (want := true) rfl (fun _ _ h => h) ?_) (OpGoals.cons (OpGoal.guarded (d := 95) (want := true) rfl (fun _ _ h => h) ?_) (OpGoals.cons (OpGoal.guarded (d := 95) (want := true) rfl (fun _ _ h => h) ?_) (OpGoals.cons (OpGoal.guarded (d := 95) (want := true) rfl (fun _ _ h => h) ?_) (OpGoals.cons (OpGoal.guarded (d := 95) (want := true) rfl (fun _ _ h => h) ?_) (OpGoals.cons (OpGoal.guarded (d := 95) (want := true) rfl (fun _ _ h => h) ?_) (OpGoals.cons (OpGoal.guarded (d := 95) (want := true) rfl (fun _ _ h => h) ?_) (OpGoals.cons (OpGoal.guarded (d := 95) (want := true) rfl (fun _ _ h => h) ?_) (OpGoals.cons (OpGoal.plain rfl ?_) OpGoals.none)))))))))))))
                    all_goals (intro a' w' hS hR; simp [Rd, Op.operands, Call.operands, Fk, Ex] at hR)
                    all_goals (have hci' := hS.fr.cell hci hgf)
                    all_goals (have hcj' := hS.fr.cell hcj hgf)
                    all_goals try (simp [Yields, execOp, Act.eval, hR, hci', hcj', hik, h0k, hi1, hRR, go_sem, Fk, Ex]; done)
                    · simp [Yields, Act.eval, hR, go_sem, Fk, Ex]
                      refine (over_either HA.out.1 hS (Nat.le_refl _) ok).mono ?_
                      rintro e w2 ⟨rfl, h1, h2⟩
                      exact ⟨_, rfl, h1, h2⟩
                    · obtain ⟨e, _⟩ := hR
                      simp [Yields, execOp, Act.eval, e, go_sem, Fk, Ex]
                      exact OSt.grew _ _ _ _ _ (Fr.refl _ _)
                  · intro w6 hS
                    rintro _ rfl _ rfl _ rfl _ rfl _ rfl _ rfl _ rfl _ rfl _ rfl _ rfl _ rfl v105 f105 _ rfl _ rfl
                    refine Then.nil ?_
                    obtain ⟨_, f', q1, q2⟩ := f105
                    have HF := hid (show Fl4 w hb k gl lc L true w6 from ⟨_, f', q1, HA.out.2.1, hll, grew_step HA.out.2.2.1 hS.fr (fun b e => e.elim (HA.out.2.2.2.1 b) (fun h => by have := HA.out.2.2.1.size; omega)), HA.out.2.2.2.2.2.kept hS.fr (fun g hg => by cases hg; exact hgf)⟩)
                    clear q1 q2 hS HA hll hci hcj hgf hRR ok hi1 h0k hik
                    clear hltI hik1 hi
                    go_wp2
                    go_loopw [17] (fun i wx => ∃ j : Nat, j ≤ k ∧ i = .int .i64 j ∧ Fl4 w hb k gl lc L true wx) (fun i _ => k - (intOf i).toNat)
                    case atStart => exact ⟨0, by omega, rfl, HF.out⟩
                    case round =>
                      clear HF
                      obtain ⟨j, hj, rfl, B, fq, u1, u2, hll, u3, u4⟩ := hrel
                      obtain ⟨g, c, he, _, _, _, hcl⟩ := u4.at (by omega)
                      simp only [Value.slice.injEq, Option.some.injEq, Addr.mk.injEq] at he
                      obtain ⟨⟨rfl, -⟩, -, rfl⟩ := he
                      by_cases hjk : j < k
                      · obtain ⟨kp, hkp⟩ : ∃ kp, k - 1 = kp := ⟨_, rfl⟩
                        have hkpk : kp < k := by omega
                        have hidx : (k : Int) - 1 = (kp : Int) := by omega
                        have hjL : j < L.length := by omega
                        have hkL : kp < L.length := by omega
                        have hcj := (hcl j hjL).1
                        have hck := (hcl kp hkL).1
                        have hfo := u2.follow j hjL
                        have htg := u2.tag j hjL
                        have hgd : L.getD (k - 1) 0 = L[kp]'hkL := by rw [hkp, List.getD_eq_getElem?_getD, List.getElem?_eq_getElem hkL]; rfl
                        rw [hgd] at hfo
                        obtain ⟨lj, hlj⟩ : ∃ v, L[j]'hjL = v := ⟨_, rfl⟩
                        obtain ⟨lk, hlk⟩ : ∃ v, L[kp]'hkL = v := ⟨_, rfl⟩
                        rw [hlj] at hcj hfo htg
                        rw [hlk] at hck hfo
                        have hfx := followI u1 u2.wf hfo
                        have hrr : (lk != lk) = false := by simp
                        have HN := hid (show Fl4 w hb k gl lc L true _ from ⟨B, fq, u1, u2, hll, u3, u4⟩)
                        by_cases hj1 : j + 1 < k
                        · have htx := tagI u1 (htg.trans (if_pos (.inl hj1)))
                          have hj1I : (j : Int) + 1 < k := by omega
                          clear u1 u2 u3 u4 hcl hll hgd hlj hlk hfo htg hjL hkL hkp
                          go_wp2_with (first | (go_at_call 34; refine hfx.mono ?_; rintro e w' ⟨rfl, rfl⟩) | (go_at_call 26; refine htx.mono ?_; rintro e w' ⟨rfl, rfl⟩))
                          go_roundw
                          case rel => exact ⟨j + 1, by omega, by go_num, HN.out⟩
                          case measure => simp [intOf]; omega
                        · have htx := tagI u1 (htg.trans (if_pos (.inr rfl)))
                          have hj1I : ¬ (j : Int) + 1 < k := by omega
                          clear u1 u2 u3 u4 hcl hll hgd hlj hlk hfo htg hjL hkL hkp
                          go_wp2_with (first | (go_at_call 34; refine hfx.mono ?_; rintro e w' ⟨rfl, rfl⟩) | (go_at_call 26; refine htx.mono ?_; rintro e w' ⟨rfl, rfl⟩))
                          go_roundw
                          case rel => exact ⟨j + 1, by omega, by go_num, HN.out⟩
                          case measure => simp [intOf]; omega
                      · have h0L : 0 < L.length := by omega
                        have hc0 := (hcl 0 h0L).1
                        obtain ⟨l0, hl0⟩ : ∃ v, L[0]'h0L = v := ⟨_, rfl⟩
                        rw [hl0] at hc0
                        have h0k : 0 < k := by omega
                        have hus := fun n => usedI (u1.grew ((Fr.refl (fun _ => False) _).drewN n)) u2.used
                        have hov := fun n => over_same (u1.grew ((Fr.refl (fun _ => False) _).drewN n)) l0
                        have HG := hid u3
                        clear u1 u2 u3 u4 hcl hll hl0 h0L
                        go_wp2
                        go_quiet (first | (go_at_call 27; exact quiet_same (hus _)) | (go_at_call 39; exact quiet_same (hov _)))
                        go_wp2
                        go_ret
                        exact ⟨rfl, (HG.out.drewN _).below⟩

/-! ### THE ROW's STEP: WRITTEN OUT: LEAVE IT -/
set_option maxRecDepth 100000 in
theorem lifted (os : Os) (started : os.Started) (H : Type) (enc : TypeId × Value → H) :
    ReturnsInHanded {} Try.checked os 14 .any (Rows.heapFollowsSpec.pre6 enc Try.prog Try.f14 Rows.heapFollowsRow.domain false) (Rows.heapFollowsSpec.post enc Try.prog Try.f14 false true false false) := by
  refine returnsInHanded_of_change (C := Try.checked) own started (by kernel_rfl) Try.func14
    (ChangeSpec.witness6 (enc := enc) (C := Try.checked) false ⟨#[], #[.int .i64 0, .slice none 0 0, .bool false], []⟩ 8 (by kernel_rfl) (by kernel_rfl) (by kernel_rfl) (by kernel_rfl)) ?_
  intro W base args ds gs before hval0 hW hcnd _
  have hval : ∀ (j : Nat) t v, Try.f14.params[j]? = some t → args[j]? = some v → Value.okWide Try.prog W .any base t v := hval0
  have hW' := hW
  obtain ⟨p, q, hA0, hV, rfl, hfz, hnd⟩ := hW
  have hA : DataW.TrodAll enc Try.prog W 0 (fun _ => true) true Try.f14.params.toList args.toList ds p := hA0
  rw [Try.params14] at hA hval
  obtain ⟨v0, vs0, d0, ds0, p0, q0, hargs, rfl, rfl, h0, r0⟩ := trodAll_cons hA
  obtain ⟨v1, vs1, d1, ds1, p1, q1, rfl, rfl, rfl, h1, r1⟩ := trodAll_cons r0
  obtain ⟨v2, vs2, d2, ds2, p2, q2, rfl, rfl, rfl, h2, r2⟩ := trodAll_cons r1
  obtain ⟨rfl, rfl, rfl⟩ := trodAll_nil r2
  obtain rfl : args = #[v0, v1, v2] := by cases args; simp_all
  obtain ⟨rfl, rfl⟩ := trodVars_none hV
  obtain ⟨a0, rfl, rfl, rfl, w0⟩ := open_int Try.underlying3 (hval 0 3 v0 rfl rfl) h0
  obtain ⟨a1, len1, cap1, rfl⟩ := okWide_slice Try.underlying22 (hval 1 22 v1 rfl rfl)
  have k1 := h1
  have lt1 : ∀ x ∈ p1, x.block < W.heap.size := by obtain ⟨m, hm⟩ := k1; exact DataW.trod_lt m _ _ _ hm
  obtain ⟨z1, w1⟩ : ∃ zs, IsRow .i64 W a1 len1 cap1 zs := by
    obtain ⟨fuel, hf⟩ := h1
    rcases open_ints Try.underlying22 Try.underlying3 (by kernel_rfl) hf with ⟨hcs, _⟩ | ⟨x, l, c, zs, hcs, _, hl, hm, hz, _, hcell, hwz⟩
    · simp [Value.cells] at hcs
      obtain ⟨rfl, rfl, rfl⟩ := hcs
      exact ⟨[], .inl ⟨rfl, rfl, rfl, rfl⟩⟩
    · simp [Value.cells] at hcs
      obtain ⟨rfl, rfl, rfl⟩ := hcs
      exact ⟨zs, .inr ⟨_, rfl, hl, hm, by simpa using hz, hcell, hwz⟩⟩
  obtain ⟨a2, rfl, rfl, rfl⟩ := open_bool Try.underlying4 (hval 2 4 v2 rfl rfl) h2
  clear hA0 hval0
  refine (walk a0 a1 len1 cap1 z1 a2 W w0 w1).mono fun e W' ⟨he, bel⟩ => ?_
  subst he
  exact ⟨_, rfl, _, _, _, [], _, [], hW', trodAll_mk1 (shut_bool Try.underlying4 _), (trodAll_cons_mk (shut_int Try.underlying3 w0) (trodAll_cons_mk (Below.trod laidOut (by kernel_rfl) (of_decide_eq_true (by kernel_rfl)) k1 bel lt1) (trodAll_cons_mk (shut_bool Try.underlying4 _) trodAll_mk0))), rfl, bel.frame _, fun h => by cases h⟩

theorem over : Rows.heapFollowsRow.holds Try.pinned (OpenSpec.ofChange Rows.heapFollowsSpec) :=
  OpenClaim.holds_of_wide 14 Try.f14 rfl rfl rfl rfl rfl rfl rfl ⟨rfl, rfl, rfl, rfl, rfl⟩ rfl rfl rfl rfl rfl (by kernel_rfl) Try.func14 (by kernel_rfl)
    (of_decide_eq_true (by kernel_rfl)) (by unfold Func.isWrapper; first | (rw [if_pos (by decide +kernel)]; kernel_rfl) | (rw [if_neg (by decide +kernel)]; exact ⟨rfl, rfl⟩))
    (fun os started H enc _ => lifted os started H enc)

/-- the statement -/
theorem proved : Rows.HeapFollowsSaid := over
end Go.Proofs.Ytjhdnbediipibaa.heapFollows

namespace Go.Proofs.Ytjhdnbediipibaa
theorem heapFollows_holds : Rows.HeapFollowsSaid := heapFollows.proved
#print axioms heapFollows_holds
end Go.Proofs.Ytjhdnbediipibaa
