/-
  The deeper selectors may be followed, the fewer words are left behind a collection, or as many: 'thunk/thunklaw12.GcDeeper' returns true, for every input.
  No condition beyond the given row's own.
-/
import Derived.Test.YtjhdnbediipibaaP9
import Derived.Test.YtjhdnbediipibaaRows
import Derived.WalkKit
import Derived.ProofKit
import Derived.OpenShut
import Derived.ShutString
import Derived.ChangeOld
import Derived.Below
namespace Go.Proofs.Ytjhdnbediipibaa.gcDeeper
open Go.ChangeShapes Go.WideShapes Go.ChangeAt Go.RowKit
open Go.ChangeMaps (open_string shut_string)
set_option linter.unusedVariables false

theorem own : ownKnob Try.prog.godebug = none := by kernel_rfl
theorem laidOut : laidOutB Try.prog = true := by kernel_rfl

/-- WHAT THE WALK IS TOLD OF A SLICE OF INTEGERS THAT CAME IN: it is nil; or it leads to a row of 'cap' cells, the numbers 'zs' (the first 'len' are its elements, the rest its spare room), each fitting its kind. -/
def IsRow (k : IntKind) (w : World) (a : Option Addr) (len cap : Nat) (zs : List Int) : Prop :=
  (a = none ∧ len = 0 ∧ cap = 0 ∧ zs = []) ∨
  ∃ x, a = some x ∧ len ≤ cap ∧ cap ≤ maxLen ∧ zs.length = cap ∧ (∀ i, i < zs.length → w.cell? (x.add i) = some (.int k (zs.getD i 0))) ∧ ∀ n ∈ zs, (Lit.int k n).wf = true

/-! ### STEP 1: THE WALK: the Go text returns true, AND WRITES NOTHING THAT WAS THERE: 'Below w.heap.size w w'' (Derived/Below.lean: '.refl', '.alloc', '.drew', '.setCell' at a new block, '.trans'). Open each 'IsRow' by 'rcases' AHEAD of 'go_enter'; part every test ahead of the walk. -/
theorem used_is {w : World} {hb : Nat} {A : AH} {fp : List Nat} {u : Int} (h : PH w hb A fp) (hu : A.used = u) :
    Calls Try.prog 27 #[.pointer (some ⟨hb, 0, none⟩)] w fun e w' => e = .returned (Kv u) ∧ w = w' := by
  rw [← hu]; exact used_any h

set_option maxHeartbeats 4000000 in
set_option maxRecDepth 100000 in
/-! ### STEP 1: THE WALK -/
theorem walk (a0 : Option Addr) (len0 cap0 : Nat) (z0 : List Int) (a1 : Option Addr) (len1 cap1 : Nat) (z1 : List Int) (a2 : Int) (w : World) (w0 : IsRow .i64 w a0 len0 cap0 z0) (w1 : IsRow .i64 w a1 len1 cap1 z1) (w2 : (Lit.int .i64 a2).wf = true) :
    Calls Try.prog 8 #[.slice a0 len0 cap0, .slice a1 len1 cap1, .int .i64 a2] w fun e w' => e = .returned (.bool true) ∧ Below w.heap.size w w' := by
  have hr0 : RowIn w a0 len0 cap0 := by
    rcases w0 with ⟨_, h, _⟩ | ⟨x, h1, h2, h3, h4, h5, _⟩
    · exact ⟨by simp [h], fun i hi => by omega⟩
    · exact ⟨by omega, fun i hi => ⟨x, _, h1, h2, h5 i (by omega)⟩⟩
  have hr1 : RowIn w a1 len1 cap1 := by
    rcases w1 with ⟨_, h, _⟩ | ⟨x, h1, h2, h3, h4, h5, _⟩
    · exact ⟨by simp [h], fun i hi => by omega⟩
    · exact ⟨by omega, fun i hi => ⟨x, _, h1, h2, h5 i (by omega)⟩⟩
  have HR := hid (And.intro hr0 hr1)
  clear w0 w1 w2 hr0 hr1
  obtain ⟨d, hd, hd20⟩ : ∃ d : Nat, a2 % 20 = d ∧ d < 20 := ⟨(a2 % 20).toNat, by omega, by omega⟩
  have hk1 := fun w => within12_any a2 20 w (by omega) (by omega)
  rw [hd] at hk1
  have hkw := known12_any w
  clear hd
  go_enter Try.func8, Try.ntmps8
  go_wp2_with fail
  refine hkw.mono ?_
  rintro e w1 ⟨rfl, g1⟩
  have HG1 := hid g1
  clear g1 hkw
  go_wp2_with fail
  refine (both_any (HR.out.1.kept HG1.out)).mono ?_
  rintro e w2 ⟨hb, xb, rfl, A, fp, hW, hWo, hT, g2, b2⟩
  obtain ⟨f1, f2, rfl, hp, hx, hdis⟩ := hT
  have HG2 := hid (HG1.out.trans g2 (fun _ _ f => f))
  have HP := hid (And.intro hp (And.intro hx hW))
  clear hp hx hW hWo hdis g2 b2 HG1
  go_wp2_with fail
  refine (hk1 _).mono ?_
  rintro e w' ⟨rfl, rfl⟩
  clear hk1
  go_wp2_with fail
  refine (roots_any HP.out.2.1 HP.out.2.2.fine.few (HR.out.2.kept HG2.out)).mono ?_
  rintro e w3 ⟨l, hl6, hlh, v, rfl, hv, g3, _⟩
  obtain ⟨va, vc, rfl, _, _⟩ := hv.shape
  have HV := hid (And.intro hlh (And.intro hv (And.intro g3 (HG2.out.trans g3 (fun _ _ f => f)))))
  clear hlh hv g3 HG2
  go_wp2_with fail
  refine (collect_ok (d := 0) HP.out.2.2 (by omega) (HP.out.1.grew HV.out.2.2.1) HV.out.2.1 (by omega) HV.out.1).mono ?_
  rintro e w4 ⟨ob, fp4, tv, rfl, p4, t4, g4, b4, c4⟩
  have H4 := hid (And.intro p4 g4)
  clear p4 t4 g4 b4 c4
  go_wp2_with fail
  refine (collect_ok (d := d) HP.out.2.2 (by omega) ((HP.out.1.grew HV.out.2.2.1).grew H4.out.2) (HV.out.2.1.kept H4.out.2 (fun _ _ f => f)) (by omega) HV.out.1).mono ?_
  rintro e w5 ⟨ob2, fp5, tv2, rfl, p5, t5, g5, b5, c5⟩
  obtain ⟨l1, l2⟩ := deeper_law HP.out.2.2 d HV.out.1
  have hd0 : d = 0 → (A.gcd d (A.final d l)).used = (A.gcd 0 (A.final 0 l)).used := fun e => by subst e; rfl
  have hua := fun n => used_is (p5.grew ((Fr.refl (fun _ => False) w5).drewN n)) (u := (A.gcd d (A.final d l)).used) rfl
  have hub := fun n => used_is ((H4.out.1.grew g5).grew ((Fr.refl (fun _ => False) w5).drewN n)) (u := (A.gcd 0 (A.final 0 l)).used) rfl
  have huc := fun n => used_is (((HP.out.1.grew HV.out.2.2.1).grew (H4.out.2.trans g5 (fun _ _ f => f))).grew ((Fr.refl (fun _ => False) w5).drewN n)) (u := A.used) rfl
  generalize (A.gcd d (A.final d l)).used = ub at *
  generalize (A.gcd 0 (A.final 0 l)).used = ua at *
  generalize A.used = uh at *
  have HG := hid ((HV.out.2.2.2.trans (H4.out.2.trans g5 (fun _ _ f => f)) (fun _ _ f => f) : Grew w w5))
  clear p5 t5 g5 b5 c5 H4 HV HP HR hl6
  by_cases hdz : d = 0
  · have := hd0 hdz
    subst hdz this
    have he : (ub == ub) = true := by simp
    have hle : ub ≤ ub := by omega
    clear hd0
    go_wp2
    go_quiet (first | (go_at_call_of 27 (Value.pointer (some ⟨ob2, 0, none⟩)); exact quiet_same (hua _)) | (go_at_call_of 27 (Value.pointer (some ⟨ob, 0, none⟩)); exact quiet_same (hub _)) | (go_at_call_of 27 (Value.pointer (some ⟨hb, 0, none⟩)); exact quiet_same (huc _)))
    go_wp2
    go_ret
    exact ⟨rfl, (HG.out.drewN _).below⟩
  · have hd1 : (0 : Int) < (d : Int) := by omega
    have hdn : 0 < d := by omega
    clear hd0 hdz
    go_wp2
    go_quiet (first | (go_at_call_of 27 (Value.pointer (some ⟨ob2, 0, none⟩)); exact quiet_same (hua _)) | (go_at_call_of 27 (Value.pointer (some ⟨ob, 0, none⟩)); exact quiet_same (hub _)) | (go_at_call_of 27 (Value.pointer (some ⟨hb, 0, none⟩)); exact quiet_same (huc _)))
    go_wp2
    go_ret
    exact ⟨rfl, (HG.out.drewN _).below⟩

/-! ### THE ROW's STEP: WRITTEN OUT: LEAVE IT -/
set_option maxRecDepth 100000 in
theorem lifted (os : Os) (started : os.Started) (H : Type) (enc : TypeId × Value → H) :
    ReturnsInHanded {} Try.checked os 8 .any (Rows.gcDeeperSpec.pre6 enc Try.prog Try.f8 Rows.gcDeeperRow.domain false) (Rows.gcDeeperSpec.post enc Try.prog Try.f8 false true false false) := by
  refine returnsInHanded_of_change (C := Try.checked) own started (by kernel_rfl) Try.func8
    (ChangeSpec.witness6 (enc := enc) (C := Try.checked) false ⟨#[], #[.slice none 0 0, .slice none 0 0, .int .i64 0], []⟩ 8 (by kernel_rfl) (by kernel_rfl) (by kernel_rfl) (by kernel_rfl)) ?_
  intro W base args ds gs before hval0 hW hcnd _
  have hval : ∀ (j : Nat) t v, Try.f8.params[j]? = some t → args[j]? = some v → Value.okWide Try.prog W .any base t v := hval0
  have hW' := hW
  obtain ⟨p, q, hA0, hV, rfl, hfz, hnd⟩ := hW
  have hA : DataW.TrodAll enc Try.prog W 0 (fun _ => true) true Try.f8.params.toList args.toList ds p := hA0
  rw [Try.params8] at hA hval
  obtain ⟨v0, vs0, d0, ds0, p0, q0, hargs, rfl, rfl, h0, r0⟩ := trodAll_cons hA
  obtain ⟨v1, vs1, d1, ds1, p1, q1, rfl, rfl, rfl, h1, r1⟩ := trodAll_cons r0
  obtain ⟨v2, vs2, d2, ds2, p2, q2, rfl, rfl, rfl, h2, r2⟩ := trodAll_cons r1
  obtain ⟨rfl, rfl, rfl⟩ := trodAll_nil r2
  obtain rfl : args = #[v0, v1, v2] := by cases args; simp_all
  obtain ⟨rfl, rfl⟩ := trodVars_none hV
  obtain ⟨a0, len0, cap0, rfl⟩ := okWide_slice Try.underlying22 (hval 0 22 v0 rfl rfl)
  have k0 := h0
  have lt0 : ∀ x ∈ p0, x.block < W.heap.size := by obtain ⟨m, hm⟩ := k0; exact DataW.trod_lt m _ _ _ hm
  obtain ⟨z0, w0⟩ : ∃ zs, IsRow .i64 W a0 len0 cap0 zs := by
    obtain ⟨fuel, hf⟩ := h0
    rcases open_ints Try.underlying22 Try.underlying3 (by kernel_rfl) hf with ⟨hcs, _⟩ | ⟨x, l, c, zs, hcs, _, hl, hm, hz, _, hcell, hwz⟩
    · simp [Value.cells] at hcs
      obtain ⟨rfl, rfl, rfl⟩ := hcs
      exact ⟨[], .inl ⟨rfl, rfl, rfl, rfl⟩⟩
    · simp [Value.cells] at hcs
      obtain ⟨rfl, rfl, rfl⟩ := hcs
      exact ⟨zs, .inr ⟨_, rfl, hl, hm, by simpa using hz, hcell, hwz⟩⟩
  obtain ⟨a1, len1, cap1, rfl⟩ := okWide_slice Try.underlying22 (hval 1 22 v1 rfl rfl)
  have k1 := h1
  have lt1 : ∀ x ∈ p1, x.block < W.heap.size := by obtain ⟨m, hm⟩ := k1; exact DataW.trod_lt m _ _ _ hm
  obtain ⟨z1, w1⟩ : ∃ zs, IsRow .i64 W a1 len1 cap1 zs := by
    obtain ⟨fuel, hf⟩ := h1
    rcases open_ints Try.underlying22 Try.underlying3 (by kernel_rfl) hf with ⟨hcs, _⟩ | ⟨x, l, c, zs, hcs, _, hl, hm, hz, _, hcell, hwz⟩
    · simp [Value.cells] at hcs
      obtain ⟨rfl, rfl, rfl⟩ := hcs
      exact ⟨[], .inl ⟨rfl, rfl, rfl, rfl⟩⟩
    · simp [Value.cells] at hcs
      obtain ⟨rfl, rfl, rfl⟩ := hcs
      exact ⟨zs, .inr ⟨_, rfl, hl, hm, by simpa using hz, hcell, hwz⟩⟩
  obtain ⟨a2, rfl, rfl, rfl, w2⟩ := open_int Try.underlying3 (hval 2 3 v2 rfl rfl) h2
  clear hA0 hval0
  refine (walk a0 len0 cap0 z0 a1 len1 cap1 z1 a2 W w0 w1 w2).mono fun e W' ⟨he, bel⟩ => ?_
  subst he
  exact ⟨_, rfl, _, _, _, [], _, [], hW', trodAll_mk1 (shut_bool Try.underlying4 _), (trodAll_cons_mk (Below.trod laidOut (by kernel_rfl) (of_decide_eq_true (by kernel_rfl)) k0 bel lt0) (trodAll_cons_mk (Below.trod laidOut (by kernel_rfl) (of_decide_eq_true (by kernel_rfl)) k1 bel lt1) (trodAll_cons_mk (shut_int Try.underlying3 w2) trodAll_mk0))), rfl, bel.frame _, fun h => by cases h⟩

theorem over : Rows.gcDeeperRow.holds Try.pinned (OpenSpec.ofChange Rows.gcDeeperSpec) :=
  OpenClaim.holds_of_wide 8 Try.f8 rfl rfl rfl rfl rfl rfl rfl ⟨rfl, rfl, rfl, rfl, rfl⟩ rfl rfl rfl rfl rfl (by kernel_rfl) Try.func8 (by kernel_rfl)
    (of_decide_eq_true (by kernel_rfl)) (by unfold Func.isWrapper; first | (rw [if_pos (by decide +kernel)]; kernel_rfl) | (rw [if_neg (by decide +kernel)]; exact ⟨rfl, rfl⟩))
    (fun os started H enc _ => lifted os started H enc)

/-- the statement -/
theorem proved : Rows.GcDeeperSaid := over
end Go.Proofs.Ytjhdnbediipibaa.gcDeeper

namespace Go.Proofs.Ytjhdnbediipibaa
theorem gcDeeper_holds : Rows.GcDeeperSaid := gcDeeper.proved
#print axioms gcDeeper_holds
end Go.Proofs.Ytjhdnbediipibaa
