/-
  Whatever is made, set, written over, in any order, a heap answers what the document's heap answers, and has what it has: 'thunk/thunklaw11.HeapPlays' returns true, for every input.
  No condition beyond the given row's own.
-/
import Derived.Test.YtjhdnbediipibaaK3
import Derived.Test.YtjhdnbediipibaaRows
import Derived.WalkKit
import Derived.ProofKit
import Derived.OpenShut
import Derived.ShutString
import Derived.ChangeOld
import Derived.Below
namespace Go.Proofs.Ytjhdnbediipibaa.heapPlays
open Go.ChangeShapes Go.WideShapes Go.ChangeAt Go.RowKit
open Go.ChangeMaps (open_string shut_string)
set_option linter.unusedVariables false

theorem own : ownKnob Try.prog.godebug = none := by kernel_rfl
theorem laidOut : laidOutB Try.prog = true := by kernel_rfl

/-- WHAT THE WALK IS TOLD OF A SLICE OF INTEGERS THAT CAME IN: it is nil; or it leads to a row of 'cap' cells, the numbers 'zs' (the first 'len' are its elements, the rest its spare room), each fitting its kind. -/
def IsRow (k : IntKind) (w : World) (a : Option Addr) (len cap : Nat) (zs : List Int) : Prop :=
  (a = none ∧ len = 0 ∧ cap = 0 ∧ zs = []) ∨
  ∃ x, a = some x ∧ len ≤ cap ∧ cap ≤ maxLen ∧ zs.length = cap ∧ (∀ i, i < zs.length → w.cell? (x.add i) = some (.int k (zs.getD i 0))) ∧ ∀ n ∈ zs, (Lit.int k n).wf = true

/-! ### STEP 1: THE WALK: the Go text returns true, AND WRITES NOTHING THAT WAS THERE: 'Below w.heap.size w w'' (Derived/Below.lean: '.refl', '.alloc', '.drew', '.setCell' at a new block, '.trans'). Open each 'IsRow' by 'rcases' AHEAD of 'go_enter'; part every test ahead of the walk. -/
/-! ### STEP 1: THE WALK -/
set_option maxHeartbeats 4000000 in
set_option maxRecDepth 100000 in
theorem walk (a0 : Int) (a1 : Option Addr) (len1 cap1 : Nat) (z1 : List Int) (a2 : Int) (w : World) (w0 : (Lit.int .i64 a0).wf = true) (w1 : IsRow .i64 w a1 len1 cap1 z1) (w2 : (Lit.int .i64 a2).wf = true) :
    Calls Try.prog 15 #[.int .i64 a0, .slice a1 len1 cap1, .int .i64 a2] w fun e w' => e = .returned (.bool true) ∧ Below w.heap.size w w' := by
  have hr1 : RowIn w a1 len1 cap1 := by
    rcases w1 with ⟨_, h, _⟩ | ⟨x, h1, h2, h3, h4, h5, _⟩
    · exact ⟨by simp [h], fun i hi => by omega⟩
    · exact ⟨by omega, fun i hi => ⟨x, _, h1, h2, h5 i (by omega)⟩⟩
  have HR := hid hr1
  have hlm := hr1.1
  unfold maxLen at hlm
  clear w0 w1 w2 hr1
  have hk := fun w => within11_any a0 250 w (by omega) (by omega)
  have b0 := Int.emod_nonneg a0 (show (250 : Int) ≠ 0 by omega)
  have b1 := Int.emod_lt_of_pos a0 (show (0 : Int) < 250 by omega)
  generalize a0 % 250 = wd at *
  have hkw := known11_any w
  go_enter Try.func15, Try.ntmps15
  go_wp2_with fail
  refine hkw.mono ?_
  rintro e w1 ⟨rfl, g1⟩
  have HG := hid g1
  clear g1 hkw
  go_wp2_with fail
  refine (hk _).mono ?_
  rintro e w' ⟨rfl, rfl⟩
  clear hk
  go_wp2_with fail
  refine (new_any _ _).mono ?_
  rintro e w2 ⟨hb, f1, rfl, p1, g2, c1⟩
  have H1 := hid (And.intro p1 (And.intro g2 c1))
  clear p1 g2 c1
  go_wp2_with fail
  refine (rnew_any _ _).mono ?_
  rintro e w3 ⟨xb, f2, rfl, p2, g3, c2⟩
  have HS := hid (TwoRel.start (by omega) (by omega) HG.out H1.out.1 H1.out.2.1 H1.out.2.2 p2 g3 c2)
  clear p2 g3 c2 H1 HG b0 b1
  go_wp2
  go_loopw [10] (fun i wr => ∃ k : Nat, k ≤ 80 ∧ k ≤ len1 ∧ i = .int .i64 k ∧ TwoRel w hb xb wr) (fun i _ => 80 - (intOf i).toNat)
  case atStart => exact ⟨0, by omega, Nat.zero_le _, rfl, HS.out⟩
  case round =>
    clear HS
    obtain ⟨k, hk, hkl, rfl, hT⟩ := hrel
    have hG := hT.world
    have HT := hid hT
    by_cases hlt : k < len1 ∧ k < 80
    · obtain ⟨hlt1, hlt2⟩ := hlt
      obtain ⟨x, v, rfl, hcap, hc⟩ := HR.out.2 k hlt1
      replace hc := hG.cell hc (fun f => f)
      clear hT hG
      go_wp2_with fail
      refine (HT.out.step _ _).mono ?_
      rintro e w4 ⟨rfl, h4⟩
      have H4 := hid h4
      clear h4 hc HT
      go_wp2_with fail
      refine (H4.out.same).mono ?_
      rintro e w5 ⟨rfl, h5⟩
      have H5 := hid h5
      clear h5 H4
      go_wp2
      go_roundw
      case rel => exact ⟨k + 1, by omega, by omega, by go_num, H5.out⟩
      case measure => simp [intOf]; omega
    · obtain ⟨t, f, h1, h2, h3, h4⟩ := hT.tell a2
      have HW := hid hG
      have htt : (t == t) = true := by simp
      have hff : (f == f) = true := by simp
      have hor : ¬ k < len1 ∨ (k < len1 ∧ ¬ k < 80) := by by_cases h : k < len1 <;> simp_all
      clear hT hG HT
      rcases hor with hlt1 | ⟨hlt1, hlt2⟩
      all_goals clear hlt
      all_goals go_wp2_with fail
      all_goals refine h1.mono ?_
      all_goals rintro e w' ⟨rfl, rfl⟩
      all_goals go_wp2_with fail
      all_goals refine h2.mono ?_
      all_goals rintro e w' ⟨rfl, rfl⟩
      all_goals go_wp2_with fail
      all_goals refine h3.mono ?_
      all_goals rintro e w' ⟨rfl, rfl⟩
      all_goals go_wp2_with fail
      all_goals refine h4.mono ?_
      all_goals rintro e w' ⟨rfl, rfl⟩
      all_goals go_wp2
      all_goals go_ret
      all_goals exact ⟨rfl, HW.out.below⟩

/-! ### THE ROW's STEP: WRITTEN OUT: LEAVE IT -/
set_option maxRecDepth 100000 in
theorem lifted (os : Os) (started : os.Started) (H : Type) (enc : TypeId × Value → H) :
    ReturnsInHanded {} Try.checked os 15 .any (Rows.heapPlaysSpec.pre6 enc Try.prog Try.f15 Rows.heapPlaysRow.domain false) (Rows.heapPlaysSpec.post enc Try.prog Try.f15 false true false false) := by
  refine returnsInHanded_of_change (C := Try.checked) own started (by kernel_rfl) Try.func15
    (ChangeSpec.witness6 (enc := enc) (C := Try.checked) false ⟨#[], #[.int .i64 0, .slice none 0 0, .int .i64 0], []⟩ 8 (by kernel_rfl) (by kernel_rfl) (by kernel_rfl) (by kernel_rfl)) ?_
  intro W base args ds gs before hval0 hW hcnd _
  have hval : ∀ (j : Nat) t v, Try.f15.params[j]? = some t → args[j]? = some v → Value.okWide Try.prog W .any base t v := hval0
  have hW' := hW
  obtain ⟨p, q, hA0, hV, rfl, hfz, hnd⟩ := hW
  have hA : DataW.TrodAll enc Try.prog W 0 (fun _ => true) true Try.f15.params.toList args.toList ds p := hA0
  rw [Try.params15] at hA hval
  obtain ⟨v0, vs0, d0, ds0, p0, q0, hargs, rfl, rfl, h0, r0⟩ := trodAll_cons hA
  obtain ⟨v1, vs1, d1, ds1, p1, q1, rfl, rfl, rfl, h1, r1⟩ := trodAll_cons r0
  obtain ⟨v2, vs2, d2, ds2, p2, q2, rfl, rfl, rfl, h2, r2⟩ := trodAll_cons r1
  obtain ⟨rfl, rfl, rfl⟩ := trodAll_nil r2
  obtain rfl : args = #[v0, v1, v2] := by cases args; simp_all
  obtain ⟨rfl, rfl⟩ := trodVars_none hV
  obtain ⟨a0, rfl, rfl, rfl, w0⟩ := open_int Try.underlying3 (hval 0 3 v0 rfl rfl) h0
  obtain ⟨a1, len1, cap1, rfl⟩ := okWide_slice Try.underlying22 (hval 1 22 v1 rfl rfl)
  have k1 := h1
  have lt1 : ∀ x ∈ p1, x.block < W.heap.size := by obtain ⟨m, hm⟩ := k1; exact DataW.trod_lt m _ _ _ hm
  obtain ⟨z1, w1⟩ : ∃ zs, IsRow .i64 W a1 len1 cap1 zs := by
    obtain ⟨fuel, hf⟩ := h1
    rcases open_ints Try.underlying22 Try.underlying3 (by kernel_rfl) hf with ⟨hcs, _⟩ | ⟨x, l, c, zs, hcs, _, hl, hm, hz, _, hcell, hwz⟩
    · simp [Value.cells] at hcs
      obtain ⟨rfl, rfl, rfl⟩ := hcs
      exact ⟨[], .inl ⟨rfl, rfl, rfl, rfl⟩⟩
    · simp [Value.cells] at hcs
      obtain ⟨rfl, rfl, rfl⟩ := hcs
      exact ⟨zs, .inr ⟨_, rfl, hl, hm, by simpa using hz, hcell, hwz⟩⟩
  obtain ⟨a2, rfl, rfl, rfl, w2⟩ := open_int Try.underlying3 (hval 2 3 v2 rfl rfl) h2
  clear hA0 hval0
  refine (walk a0 a1 len1 cap1 z1 a2 W w0 w1 w2).mono fun e W' ⟨he, bel⟩ => ?_
  subst he
  exact ⟨_, rfl, _, _, _, [], _, [], hW', trodAll_mk1 (shut_bool Try.underlying4 _), (trodAll_cons_mk (shut_int Try.underlying3 w0) (trodAll_cons_mk (Below.trod laidOut (by kernel_rfl) (of_decide_eq_true (by kernel_rfl)) k1 bel lt1) (trodAll_cons_mk (shut_int Try.underlying3 w2) trodAll_mk0))), rfl, bel.frame _, fun h => by cases h⟩

theorem over : Rows.heapPlaysRow.holds Try.pinned (OpenSpec.ofChange Rows.heapPlaysSpec) :=
  OpenClaim.holds_of_wide 15 Try.f15 rfl rfl rfl rfl rfl rfl rfl ⟨rfl, rfl, rfl, rfl, rfl⟩ rfl rfl rfl rfl rfl (by kernel_rfl) Try.func15 (by kernel_rfl)
    (of_decide_eq_true (by kernel_rfl)) (by unfold Func.isWrapper; first | (rw [if_pos (by decide +kernel)]; kernel_rfl) | (rw [if_neg (by decide +kernel)]; exact ⟨rfl, rfl⟩))
    (fun os started H enc _ => lifted os started H enc)

/-- the statement -/
theorem proved : Rows.HeapPlaysSaid := over
end Go.Proofs.Ytjhdnbediipibaa.heapPlays

namespace Go.Proofs.Ytjhdnbediipibaa
theorem heapPlays_holds : Rows.HeapPlaysSaid := heapPlays.proved
#print axioms heapPlays_holds
end Go.Proofs.Ytjhdnbediipibaa
