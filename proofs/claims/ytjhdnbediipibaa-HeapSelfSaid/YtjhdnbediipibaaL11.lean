/-
  An object may point at itself; at what comes behind it only once that is there: 'thunk/thunklaw11.HeapSelf' returns true, for every input.
  No condition beyond the given row's own.
-/
import Derived.Test.YtjhdnbediipibaaK4
import Derived.Test.YtjhdnbediipibaaRows
import Derived.WalkKit
import Derived.ProofKit
import Derived.OpenShut
import Derived.ShutString
import Derived.ChangeOld
import Derived.Below
namespace Go.Proofs.Ytjhdnbediipibaa.heapSelf
open Go.ChangeShapes Go.WideShapes Go.ChangeAt Go.RowKit
open Go.ChangeMaps (open_string shut_string)
set_option linter.unusedVariables false      -- a walk need not use every 'w<i>' (that an integer argument fits its kind)

theorem own : ownKnob Try.prog.godebug = none := by kernel_rfl
theorem laidOut : laidOutB Try.prog = true := by kernel_rfl

/-! ### STEP 1: THE WALK: the Go text returns true. 'Grown w w'': the world has at most new blocks (Derived/RowKit3.lean). Part the cases AHEAD of 'go_enter' where a test parts the walk; take each callee by a contract of your own. -/
/-! ### STEP 1: THE WALK -/
set_option maxHeartbeats 4000000 in
set_option maxRecDepth 100000 in
theorem walk (a0 : Int) (a1 : Int) (w0 : (Lit.int .i64 a0).wf = true) (w1 : (Lit.int .i64 a1).wf = true) (w : World) :
    Calls Try.prog 13 #[.int .i64 a0, .int .i64 a1] w fun e w' => e = .returned (.bool true) ∧ Below w.heap.size w w' := by
  clear w0 w1
  obtain ⟨q, hq, hq9⟩ : ∃ q : Nat, a0 % 20 = q ∧ q < 20 := ⟨(a0 % 20).toNat, by omega, by omega⟩
  obtain ⟨x, hx, hx9⟩ : ∃ x : Nat, a1 % 40 = x ∧ x < 40 := ⟨(a1 % 40).toNat, by omega, by omega⟩
  have hk1 := fun w => within11_any a0 20 w (by omega) (by omega)
  have hk2 := fun w => within11_any a1 40 w (by omega) (by omega)
  rw [hq] at hk1
  rw [hx] at hk2
  have hkw := known11_any w
  clear hq hx
  go_enter Try.func13, Try.ntmps13
  go_wp2_with fail
  refine hkw.mono ?_
  rintro e w1 ⟨rfl, g1⟩
  have HG := hid g1
  clear g1 hkw
  go_wp2_with fail
  refine (new_any _ _).mono ?_
  rintro e w2 ⟨hb, f1, rfl, p1, g2, c1⟩
  have HS := hid (OneRel.start HG.out p1 g2 c1 (atoms_zero 100 (by omega) (by omega)))
  clear p1 g2 c1 HG
  go_wp2_with fail
  refine (hk1 _).mono ?_
  rintro e w' ⟨rfl, rfl⟩
  clear hk1
  go_wp2
  go_loopw [7] (fun i wr => ∃ k : Nat, k ≤ q ∧ i = .int .i64 k ∧ OneRel (Atoms k 100) w hb wr) (fun i _ => q - (intOf i).toNat)
  case atStart => exact ⟨0, Nat.zero_le _, rfl, HS.out⟩
  case round =>
    clear HS
    obtain ⟨k, hk, rfl, A, fp, r1, r2, r3, r4⟩ := hrel
    by_cases hlt : k < q
    · have hal := alloc_yes r1 r2.1 7 (Ow.nil _) (Ow.nil _) (atoms_ok r2 (by omega))
      have HM := hid (fun e w1 (h : MadePost wr hb A fp 7 [] [] e w1) => OneRel.made (Ψ := Atoms (k + 1) 100) r2.2.1 r3 r4 h (atoms_add r2 (by omega)))
      clear r1 r2 r3 r4
      go_wp2_with fail
      refine hal.mono ?_
      intro e w3 hp
      obtain ⟨rfl, h3⟩ := HM.out _ _ hp
      have H3 := hid h3
      clear h3 hp hal HM
      go_wp2
      go_roundw
      case rel => exact ⟨k + 1, by omega, by go_num, H3.out⟩
      case measure => simp [intOf]; omega
    · have hkq : k = q := by omega
      subst hkq
      have hul := usedI r1 r2.2.1
      have HR := hid (And.intro r1 (And.intro r2 (And.intro r3 r4)))
      clear r1 r2 r3 r4 hk
      go_wp2_with fail
      refine hul.mono ?_
      rintro e w' ⟨rfl, rfl⟩
      clear hul hlt
      go_wp2_with fail
      refine (hk2 _).mono ?_
      rintro e w' ⟨rfl, rfl⟩
      clear hk2
      go_wp2_with fail
      obtain ⟨r1, r2, r3, r4⟩ := HR.out
      have g0 := Grew.alloc wr (.cells #[.int .i64 (2 * (k : Int)), .int .i64 (2 * (k : Int) + 1 + (x : Int))] 3)
      refine (alloc_any (r1.grew g0) r2.1.fine 2 (Ow.two wr _ _) (Ow.nil _)).mono ?_
      intro e w3 hp
      unfold AllocPost at hp
      rw [if_neg (fun ok => by
        rcases ok.2.1 (2 * (k : Int) + 1 + (x : Int)) (by simp) with h | h
        · exact not_has r2.1 (by rw [r2.2.1]; omega) h
        · rw [r2.2.1] at h; omega)] at hp
      obtain ⟨rfl, d, rfl⟩ := hp
      have g1 : Grew wr ((wr.alloc (.cells #[.int .i64 (2 * (k : Int)), .int .i64 (2 * (k : Int) + 1 + (x : Int))] 3)).drewN d) := g0.drewN d
      generalize (wr.alloc (.cells #[.int .i64 (2 * (k : Int)), .int .i64 (2 * (k : Int) + 1 + (x : Int))] 3)).drewN d = w4 at *
      have H4 := hid (And.intro (r1.grew g1) (And.intro r2 (And.intro (r3.trans g1 (fun _ _ f => f)) r4)))
      clear r1 r2 r3 r4 g0 g1 HR
      go_wp2_with fail
      obtain ⟨r1, r2, r3, r4⟩ := H4.out
      have g0 := Grew.alloc w4 (.cells #[.int .i64 (2 * (k : Int)), .int .i64 (2 * (k : Int))] 3)
      have ok : A.AllocOk 2 [2 * (k : Int), 2 * (k : Int)] [] := ⟨⟨by decide, by decide, by simp, by simp, fun _ => ⟨by simp, by simp⟩, fun e => by simp at e, fun e => by simp at e⟩, fun y hy => .inr (by simp at hy; rw [hy, r2.2.1]), by rw [r2.2.1, r2.2.2.1]; simp [osz]; omega⟩
      refine (alloc_yes (r1.grew g0) r2.1 2 (Ow.two w4 _ _) (Ow.nil _) ok).mono ?_
      intro e w5 hp
      obtain ⟨rfl, f5, p5, g5, _⟩ := rel_made r2.2.1 (r3.trans g0 (fun _ _ f => f)) r4 hp
      have hfind := find_newest r2.1 2 [2 * (k : Int), 2 * (k : Int)] []
      rw [r2.2.1] at hfind
      have hW := WF_add r2.1 ok
      have hfo := follow_self hfind (by decide)
      obtain ⟨hpt, _, _⟩ := ptrs_find hfind
      have H5 := hid (And.intro p5 (And.intro g5 (And.intro hW (And.intro hpt hfo))))
      clear r1 r2 r3 r4 g0 hp p5 g5 hfind hW hfo hpt ok H4
      go_wp2_with fail
      refine (ptrsI H5.out.1 H5.out.2.2.2.1 (by simp)).mono ?_
      rintro e w6 ⟨v6, rfl, o6, g6, _⟩
      have H6 := hid (And.intro o6 g6)
      clear o6 g6
      go_wp2_with fail
      have g0 := Grew.alloc w6 (.cells #[.int .i64 (2 * (k : Int)), .int .i64 (2 * (k : Int))] 3)
      refine (intsI (H6.out.1.kept g0 (fun _ _ f => f)) (Ow.two w6 _ _) (by simp)).mono ?_
      rintro e w7 ⟨rfl, g7⟩
      have H7 := hid ((H6.out.2.trans (g0.trans g7 (fun _ _ f => f)) (fun _ _ f => f) : Grew w5 w7))
      clear g0 g7 H6
      go_wp2_with fail
      refine (followI (H5.out.1.grew H7.out) H5.out.2.2.1 H5.out.2.2.2.2).mono ?_
      rintro e w' ⟨rfl, rfl⟩
      have HW := hid ((H5.out.2.1.trans H7.out (fun _ _ f => f) : Grew w w7))
      clear H5 H7
      go_wp2
      go_ret
      exact ⟨rfl, HW.out.below⟩

/-! ### THE ROW's STEP: WRITTEN OUT: LEAVE IT -/
set_option maxRecDepth 100000 in
theorem lifted (os : Os) (started : os.Started) (H : Type) (enc : TypeId × Value → H) :
    ReturnsInHanded {} Try.checked os 13 .any (Rows.heapSelfSpec.pre6 enc Try.prog Try.f13 Rows.heapSelfRow.domain false) (Rows.heapSelfSpec.post enc Try.prog Try.f13 false true false false) := by
  refine returnsInHanded_of_change (C := Try.checked) own started (by kernel_rfl) Try.func13
    (ChangeSpec.witness6 (enc := enc) (C := Try.checked) false ⟨#[], #[.int .i64 0, .int .i64 0], []⟩ 8 (by kernel_rfl) (by kernel_rfl) (by kernel_rfl) (by kernel_rfl)) ?_
  intro W base args ds gs before hval0 hW hcnd _
  have hval : ∀ (j : Nat) t v, Try.f13.params[j]? = some t → args[j]? = some v → Value.okWide Try.prog W .any base t v := hval0
  have hW' := hW
  obtain ⟨p, q, hA0, hV, rfl, hfz, hnd⟩ := hW
  have hA : DataW.TrodAll enc Try.prog W 0 (fun _ => true) true Try.f13.params.toList args.toList ds p := hA0
  rw [Try.params13] at hA hval
  obtain ⟨v0, vs0, d0, ds0, p0, q0, hargs, rfl, rfl, h0, r0⟩ := trodAll_cons hA
  obtain ⟨v1, vs1, d1, ds1, p1, q1, rfl, rfl, rfl, h1, r1⟩ := trodAll_cons r0
  obtain ⟨rfl, rfl, rfl⟩ := trodAll_nil r1
  obtain rfl : args = #[v0, v1] := by cases args; simp_all
  obtain ⟨rfl, rfl⟩ := trodVars_none hV
  obtain ⟨a0, rfl, rfl, rfl, w0⟩ := open_int Try.underlying3 (hval 0 3 v0 rfl rfl) h0
  obtain ⟨a1, rfl, rfl, rfl, w1⟩ := open_int Try.underlying3 (hval 1 3 v1 rfl rfl) h1
  clear hA0 hval0
  refine (walk a0 a1 w0 w1 W).mono fun e W' ⟨he, bel⟩ => ?_
  subst he
  exact ⟨_, rfl, _, _, _, [], _, [], hW', trodAll_mk1 (shut_bool Try.underlying4 _), (trodAll_cons_mk (shut_int Try.underlying3 w0) (trodAll_cons_mk (shut_int Try.underlying3 w1) trodAll_mk0)), rfl, bel.frame _, fun h => by cases h⟩

theorem over : Rows.heapSelfRow.holds Try.pinned (OpenSpec.ofChange Rows.heapSelfSpec) :=
  OpenClaim.holds_of_wide 13 Try.f13 rfl rfl rfl rfl rfl rfl rfl ⟨rfl, rfl, rfl, rfl, rfl⟩ rfl rfl rfl rfl rfl (by kernel_rfl) Try.func13 (by kernel_rfl)
    (of_decide_eq_true (by kernel_rfl)) (by unfold Func.isWrapper; first | (rw [if_pos (by decide +kernel)]; kernel_rfl) | (rw [if_neg (by decide +kernel)]; exact ⟨rfl, rfl⟩))
    (fun os started H enc _ => lifted os started H enc)

/-- the statement -/
theorem proved : Rows.HeapSelfSaid :=
  over
end Go.Proofs.Ytjhdnbediipibaa.heapSelf

namespace Go.Proofs.Ytjhdnbediipibaa
theorem heapSelf_holds : Rows.HeapSelfSaid := heapSelf.proved
#print axioms heapSelf_holds
end Go.Proofs.Ytjhdnbediipibaa
