/-
  Two heaps, side by side, do not touch one another: 'thunk/thunklaw11.HeapApart' returns true, for every input.
  No condition beyond the given row's own.
-/
import Derived.Test.YtjhdnbediipibaaK3
import Derived.Test.YtjhdnbediipibaaRows
import Derived.WalkKit
import Derived.ProofKit
import Derived.OpenShut
import Derived.ShutString
import Derived.ChangeOld
import Derived.Below
namespace Go.Proofs.Ytjhdnbediipibaa.heapApart
open Go.ChangeShapes Go.WideShapes Go.ChangeAt Go.RowKit
open Go.ChangeMaps (open_string shut_string)
set_option linter.unusedVariables false

theorem own : ownKnob Try.prog.godebug = none := by kernel_rfl
theorem laidOut : laidOutB Try.prog = true := by kernel_rfl

/-- WHAT THE WALK IS TOLD OF A SLICE OF INTEGERS THAT CAME IN: it is nil; or it leads to a row of 'cap' cells, the numbers 'zs' (the first 'len' are its elements, the rest its spare room), each fitting its kind. -/
def IsRow (k : IntKind) (w : World) (a : Option Addr) (len cap : Nat) (zs : List Int) : Prop :=
  (a = none ∧ len = 0 ∧ cap = 0 ∧ zs = []) ∨
  ∃ x, a = some x ∧ len ≤ cap ∧ cap ≤ maxLen ∧ zs.length = cap ∧ (∀ i, i < zs.length → w.cell? (x.add i) = some (.int k (zs.getD i 0))) ∧ ∀ n ∈ zs, (Lit.int k n).wf = true

/-! ### STEP 1: THE WALK: the Go text returns true, AND WRITES NOTHING THAT WAS THERE: 'Below w.heap.size w w'' (Derived/Below.lean: '.refl', '.alloc', '.drew', '.setCell' at a new block, '.trans'). Open each 'IsRow' by 'rcases' AHEAD of 'go_enter'; part every test ahead of the walk. -/
/-! ### STEP 1: THE WALK -/
set_option maxHeartbeats 4000000 in
set_option maxRecDepth 100000 in
theorem walk (a0 : Option Addr) (len0 cap0 : Nat) (z0 : List Int) (a1 : Option Addr) (len1 cap1 : Nat) (z1 : List Int) (w : World) (w0 : IsRow .i64 w a0 len0 cap0 z0) (w1 : IsRow .i64 w a1 len1 cap1 z1) :
    Calls Try.prog 17 #[.slice a0 len0 cap0, .slice a1 len1 cap1] w fun e w' => e = .returned (.bool true) ∧ Below w.heap.size w w' := by
  have hr0 : RowIn w a0 len0 cap0 := by
    rcases w0 with ⟨_, h, _⟩ | ⟨x, h1, h2, h3, h4, h5, _⟩
    · exact ⟨by simp [h], fun i hi => by omega⟩
    · exact ⟨by omega, fun i hi => ⟨x, _, h1, h2, h5 i (by omega)⟩⟩
  have hr1 : RowIn w a1 len1 cap1 := by
    rcases w1 with ⟨_, h, _⟩ | ⟨x, h1, h2, h3, h4, h5, _⟩
    · exact ⟨by simp [h], fun i hi => by omega⟩
    · exact ⟨by omega, fun i hi => ⟨x, _, h1, h2, h5 i (by omega)⟩⟩
  have HR0 := hid hr0
  have HR1 := hid hr1
  have hlm0 := hr0.1
  have hlm := hr1.1
  unfold maxLen at hlm hlm0
  clear w0 w1 hr0 hr1
  have hkw := known11_any w
  go_enter Try.func17, Try.ntmps17
  go_wp2_with fail
  refine hkw.mono ?_
  rintro e w1 ⟨rfl, g1⟩
  have HG := hid g1
  clear g1 hkw
  go_wp2_with fail
  refine (new_any _ _).mono ?_
  rintro e w2 ⟨hb, f1, rfl, p1, g2, c1⟩
  have H1 := hid (And.intro p1 (And.intro g2 c1))
  clear p1 g2 c1
  go_wp2_with fail
  refine (rnew_any _ _).mono ?_
  rintro e w3 ⟨xb, f2, rfl, p2, g3, c2⟩
  have HS := hid (TwoRel.start (by omega) (by omega) HG.out H1.out.1 H1.out.2.1 H1.out.2.2 p2 g3 c2)
  clear p2 g3 c2 H1 HG
  go_wp2_with fail
  refine (new_any _ _).mono ?_
  rintro e w4 ⟨gb, f3, rfl, p1, g2, c1⟩
  have H1 := hid (And.intro p1 (And.intro g2 c1))
  clear p1 g2 c1
  go_wp2_with fail
  refine (rnew_any _ _).mono ?_
  rintro e w5 ⟨yb, f4, rfl, p2, g3, c2⟩
  have HF := hid (FourRel.start HS.out (TwoRel.start (by omega) (by omega) (Fr.refl (fun _ => False) w3) H1.out.1 H1.out.2.1 H1.out.2.2 p2 g3 c2))
  clear p2 g3 c2 H1 HS
  go_wp2
  go_loopw [9] (fun i wr => ∃ k : Nat, k ≤ 40 ∧ k ≤ len0 ∧ i = .int .i64 k ∧ FourRel w hb xb gb yb wr) (fun i _ => 40 - (intOf i).toNat)
  case atStart => exact ⟨0, by omega, Nat.zero_le _, rfl, HF.out⟩
  case round =>
    clear HF
    obtain ⟨k, hk, hkl, rfl, hT⟩ := hrel
    have hG := hT.world
    have HT := hid hT
    by_cases hlt : k < len0 ∧ k < 40
    · obtain ⟨hlt1, hlt2⟩ := hlt
      obtain ⟨x, v, rfl, hcap, hc⟩ := HR0.out.2 k hlt1
      replace hc := hG.cell hc (fun f => f)
      by_cases hlt3 : k < len1
      · obtain ⟨x1, v1, rfl, hcap1, hc1⟩ := HR1.out.2 k hlt3
        replace hc1 := hG.cell hc1 (fun f => f)
        have HCC := hid (HR0.out.2 k hlt1)
        clear hT hG
        go_wp2_with fail
        refine (HT.out.swap.step _ _).mono ?_
        rintro e w6 ⟨rfl, h6⟩
        have H6 := hid h6.swap
        obtain ⟨x', v', e1, _, hc6⟩ := HCC.out
        cases e1
        replace hc6 := H6.out.world.cell hc6 (fun f => f)
        clear h6 hc hc1 HT HCC
        go_wp2_with fail
        refine (H6.out.step _ _).mono ?_
        rintro e w7 ⟨rfl, h7⟩
        have H7 := hid h7
        clear h7 H6 hc6
        go_wp2
        go_roundw
        case rel => exact ⟨k + 1, by omega, by omega, by go_num, H7.out⟩
        case measure => simp [intOf]; omega
      · clear hT hG
        go_wp2_with fail
        refine (HT.out.step _ _).mono ?_
        rintro e w7 ⟨rfl, h7⟩
        have H7 := hid h7
        clear h7 HT hc
        go_wp2
        go_roundw
        case rel => exact ⟨k + 1, by omega, by omega, by go_num, H7.out⟩
        case measure => simp [intOf]; omega
    · have hor : ¬ k < len0 ∨ (k < len0 ∧ ¬ k < 40) := by by_cases h : k < len0 <;> simp_all
      clear hT hG
      rcases hor with hlt1 | ⟨hlt1, hlt2⟩
      all_goals clear hlt
      all_goals go_wp2_with fail
      all_goals refine (HT.out.same).mono ?_
      all_goals rintro e w6 ⟨rfl, h6⟩
      all_goals have H6 := hid h6
      all_goals clear h6 HT
      all_goals go_wp2_with fail
      all_goals refine (H6.out.swap.same).mono ?_
      all_goals rintro e w7 ⟨rfl, h7⟩
      all_goals have H7 := hid h7.world
      all_goals clear h7 H6
      all_goals go_wp2
      all_goals go_ret
      all_goals exact ⟨rfl, H7.out.below⟩

/-! ### THE ROW's STEP: WRITTEN OUT: LEAVE IT -/
set_option maxRecDepth 100000 in
theorem lifted (os : Os) (started : os.Started) (H : Type) (enc : TypeId × Value → H) :
    ReturnsInHanded {} Try.checked os 17 .any (Rows.heapApartSpec.pre6 enc Try.prog Try.f17 Rows.heapApartRow.domain false) (Rows.heapApartSpec.post enc Try.prog Try.f17 false true false false) := by
  refine returnsInHanded_of_change (C := Try.checked) own started (by kernel_rfl) Try.func17
    (ChangeSpec.witness6 (enc := enc) (C := Try.checked) false ⟨#[], #[.slice none 0 0, .slice none 0 0], []⟩ 8 (by kernel_rfl) (by kernel_rfl) (by kernel_rfl) (by kernel_rfl)) ?_
  intro W base args ds gs before hval0 hW hcnd _
  have hval : ∀ (j : Nat) t v, Try.f17.params[j]? = some t → args[j]? = some v → Value.okWide Try.prog W .any base t v := hval0
  have hW' := hW
  obtain ⟨p, q, hA0, hV, rfl, hfz, hnd⟩ := hW
  have hA : DataW.TrodAll enc Try.prog W 0 (fun _ => true) true Try.f17.params.toList args.toList ds p := hA0
  rw [Try.params17] at hA hval
  obtain ⟨v0, vs0, d0, ds0, p0, q0, hargs, rfl, rfl, h0, r0⟩ := trodAll_cons hA
  obtain ⟨v1, vs1, d1, ds1, p1, q1, rfl, rfl, rfl, h1, r1⟩ := trodAll_cons r0
  obtain ⟨rfl, rfl, rfl⟩ := trodAll_nil r1
  obtain rfl : args = #[v0, v1] := by cases args; simp_all
  obtain ⟨rfl, rfl⟩ := trodVars_none hV
  obtain ⟨a0, len0, cap0, rfl⟩ := okWide_slice Try.underlying22 (hval 0 22 v0 rfl rfl)
  have k0 := h0
  have lt0 : ∀ x ∈ p0, x.block < W.heap.size := by obtain ⟨m, hm⟩ := k0; exact DataW.trod_lt m _ _ _ hm
  obtain ⟨z0, w0⟩ : ∃ zs, IsRow .i64 W a0 len0 cap0 zs := by
    obtain ⟨fuel, hf⟩ := h0
    rcases open_ints Try.underlying22 Try.underlying3 (by kernel_rfl) hf with ⟨hcs, _⟩ | ⟨x, l, c, zs, hcs, _, hl, hm, hz, _, hcell, hwz⟩
    · simp [Value.cells] at hcs
      obtain ⟨rfl, rfl, rfl⟩ := hcs
      exact ⟨[], .inl ⟨rfl, rfl, rfl, rfl⟩⟩
    · simp [Value.cells] at hcs
      obtain ⟨rfl, rfl, rfl⟩ := hcs
      exact ⟨zs, .inr ⟨_, rfl, hl, hm, by simpa using hz, hcell, hwz⟩⟩
  obtain ⟨a1, len1, cap1, rfl⟩ := okWide_slice Try.underlying22 (hval 1 22 v1 rfl rfl)
  have k1 := h1
  have lt1 : ∀ x ∈ p1, x.block < W.heap.size := by obtain ⟨m, hm⟩ := k1; exact DataW.trod_lt m _ _ _ hm
  obtain ⟨z1, w1⟩ : ∃ zs, IsRow .i64 W a1 len1 cap1 zs := by
    obtain ⟨fuel, hf⟩ := h1
    rcases open_ints Try.underlying22 Try.underlying3 (by kernel_rfl) hf with ⟨hcs, _⟩ | ⟨x, l, c, zs, hcs, _, hl, hm, hz, _, hcell, hwz⟩
    · simp [Value.cells] at hcs
      obtain ⟨rfl, rfl, rfl⟩ := hcs
      exact ⟨[], .inl ⟨rfl, rfl, rfl, rfl⟩⟩
    · simp [Value.cells] at hcs
      obtain ⟨rfl, rfl, rfl⟩ := hcs
      exact ⟨zs, .inr ⟨_, rfl, hl, hm, by simpa using hz, hcell, hwz⟩⟩
  clear hA0 hval0
  refine (walk a0 len0 cap0 z0 a1 len1 cap1 z1 W w0 w1).mono fun e W' ⟨he, bel⟩ => ?_
  subst he
  exact ⟨_, rfl, _, _, _, [], _, [], hW', trodAll_mk1 (shut_bool Try.underlying4 _), (trodAll_cons_mk (Below.trod laidOut (by kernel_rfl) (of_decide_eq_true (by kernel_rfl)) k0 bel lt0) (trodAll_cons_mk (Below.trod laidOut (by kernel_rfl) (of_decide_eq_true (by kernel_rfl)) k1 bel lt1) trodAll_mk0)), rfl, bel.frame _, fun h => by cases h⟩

theorem over : Rows.heapApartRow.holds Try.pinned (OpenSpec.ofChange Rows.heapApartSpec) :=
  OpenClaim.holds_of_wide 17 Try.f17 rfl rfl rfl rfl rfl rfl rfl ⟨rfl, rfl, rfl, rfl, rfl⟩ rfl rfl rfl rfl rfl (by kernel_rfl) Try.func17 (by kernel_rfl)
    (of_decide_eq_true (by kernel_rfl)) (by unfold Func.isWrapper; first | (rw [if_pos (by decide +kernel)]; kernel_rfl) | (rw [if_neg (by decide +kernel)]; exact ⟨rfl, rfl⟩))
    (fun os started H enc _ => lifted os started H enc)

/-- the statement -/
theorem proved : Rows.HeapApartSaid := over
end Go.Proofs.Ytjhdnbediipibaa.heapApart

namespace Go.Proofs.Ytjhdnbediipibaa
theorem heapApart_holds : Rows.HeapApartSaid := heapApart.proved
#print axioms heapApart_holds
end Go.Proofs.Ytjhdnbediipibaa
