/-
  Of any heap, any roots, any depth, what is left is the document's, where it stands, and the old heap stays: 'thunk/thunklaw12.GcAll' returns true, for every input.
  No condition beyond the given row's own.
-/
import Derived.Test.YtjhdnbediipibaaE15
import Derived.Test.YtjhdnbediipibaaRows
import Derived.WalkKit
import Derived.ProofKit
import Derived.OpenShut
import Derived.ShutString
import Derived.ChangeOld
import Derived.Below
namespace Go.Proofs.Ytjhdnbediipibaa.gcAll
open Go.ChangeShapes Go.WideShapes Go.ChangeAt Go.RowKit
open Go.ChangeMaps (open_string shut_string)
set_option linter.unusedVariables false

theorem own : ownKnob Try.prog.godebug = none := by kernel_rfl
theorem laidOut : laidOutB Try.prog = true := by kernel_rfl

/-- WHAT THE WALK IS TOLD OF A SLICE OF INTEGERS THAT CAME IN: it is nil; or it leads to a row of 'cap' cells, the numbers 'zs' (the first 'len' are its elements, the rest its spare room), each fitting its kind. -/
def IsRow (k : IntKind) (w : World) (a : Option Addr) (len cap : Nat) (zs : List Int) : Prop :=
  (a = none ∧ len = 0 ∧ cap = 0 ∧ zs = []) ∨
  ∃ x, a = some x ∧ len ≤ cap ∧ cap ≤ maxLen ∧ zs.length = cap ∧ (∀ i, i < zs.length → w.cell? (x.add i) = some (.int k (zs.getD i 0))) ∧ ∀ n ∈ zs, (Lit.int k n).wf = true

/-! ### STEP 1: THE WALK: the Go text returns true, AND WRITES NOTHING THAT WAS THERE: 'Below w.heap.size w w'' (Derived/Below.lean: '.refl', '.alloc', '.drew', '.setCell' at a new block, '.trans'). Open each 'IsRow' by 'rcases' AHEAD of 'go_enter'; part every test ahead of the walk. -/
/-! ### STEP 1: THE WALK -/
set_option maxHeartbeats 8000000 in
set_option maxRecDepth 100000 in
theorem walk (a0 : Option Addr) (len0 cap0 : Nat) (z0 : List Int) (a1 : Option Addr) (len1 cap1 : Nat) (z1 : List Int) (a2 : Int) (a3 : Int) (w : World) (w0 : IsRow .i64 w a0 len0 cap0 z0) (w1 : IsRow .i64 w a1 len1 cap1 z1) (w2 : (Lit.int .i64 a2).wf = true) (w3 : (Lit.int .i64 a3).wf = true) :
    Calls Try.prog 18 #[.slice a0 len0 cap0, .slice a1 len1 cap1, .int .i64 a2, .int .i64 a3] w fun e w' => e = .returned (.bool true) ∧ Below w.heap.size w w' := by
  have hr0 : RowIn w a0 len0 cap0 := by
    rcases w0 with ⟨_, h, _⟩ | ⟨x, h1, h2, h3, h4, h5, _⟩
    · exact ⟨by simp [h], fun i hi => by omega⟩
    · exact ⟨by omega, fun i hi => ⟨x, _, h1, h2, h5 i (by omega)⟩⟩
  have hr1 : RowIn w a1 len1 cap1 := by
    rcases w1 with ⟨_, h, _⟩ | ⟨x, h1, h2, h3, h4, h5, _⟩
    · exact ⟨by simp [h], fun i hi => by omega⟩
    · exact ⟨by omega, fun i hi => ⟨x, _, h1, h2, h5 i (by omega)⟩⟩
  have HR := hid (And.intro hr0 hr1)
  clear w0 w1 w2 w3 hr0 hr1
  obtain ⟨d, hd, hd21⟩ : ∃ d : Nat, a2 % 21 = d ∧ d < 21 := ⟨(a2 % 21).toNat, by omega, by omega⟩
  have hk1 := fun w => within12_any a2 21 w (by omega) (by omega)
  rw [hd] at hk1
  have hkw := known12_any w
  clear hd
  go_enter Try.func18, Try.ntmps18
  go_wp2_with fail
  refine hkw.mono ?_
  rintro e w1 ⟨rfl, g1⟩
  have HG1 := hid g1
  clear g1 hkw
  go_wp2_with fail
  refine (both_any (HR.out.1.kept HG1.out)).mono ?_
  rintro e w2 ⟨hb, xb, rfl, A, fp, hW, _, hT, g2, b2⟩
  have HG2 := hid (HG1.out.trans g2 (fun _ _ f => f))
  have HT := hid (And.intro hT hW)
  clear hT hW g2 b2 HG1
  go_wp2_with fail
  refine (hk1 _).mono ?_
  rintro e w' ⟨rfl, rfl⟩
  clear hk1
  obtain ⟨f1, f2, _, hp2, hx2, _⟩ := HT.out.1
  have HX := hid (And.intro hp2 hx2)
  clear hp2 hx2
  go_wp2_with fail
  refine (roots_any HX.out.2 HT.out.2.fine.few (HR.out.2.kept HG2.out)).mono ?_
  rintro e w3 ⟨l, hl6, hlh, v, rfl, hv, g3, _⟩
  obtain ⟨va, vc, rfl, _, _⟩ := hv.shape
  obtain ⟨v1, w4, happ1, o1, q1, fr1⟩ := app_fresh hv (by omega) 22
  have g4 := Grew.alloc w4 (.cells #[.int .i64 a3] 3)
  obtain ⟨v2, w5, happ2, o2, q2, fr2⟩ := app_ow (o1.kept g4 (fun _ _ f => f)) (Ow.one w4 a3) (by simp; omega) 22
  have g35 : Grew w3 w5 := grew_step (q1.trans g4 (fun _ _ f => f)) q2 (fun b hb => fr1 b hb)
  obtain ⟨ya, yc, ey, _, _⟩ := o2.shape
  subst ey
  have g56 := Grew.alloc w5 (.cells #[.slice va l.length vc, .slice ya (l ++ [a3]).length yc, .slice none 0 0] 22)
  have g36 : Grew w3 (w5.alloc (.cells #[.slice va l.length vc, .slice ya (l ++ [a3]).length yc, .slice none 0 0] 22)) := g35.trans g56 (fun _ _ f => f)
  have hrow : ∀ j, j < 3 → ∃ ra M rc, (w5.alloc (.cells #[.slice va l.length vc, .slice ya (l ++ [a3]).length yc, .slice none 0 0] 22)).cell? ⟨w5.heap.size, j, none⟩ = some (.slice ra M.length rc) ∧
      Ow (w5.alloc (.cells #[.slice va l.length vc, .slice ya (l ++ [a3]).length yc, .slice none 0 0] 22)) (.slice ra M.length rc) M ∧ M.length ≤ 7 := by
    intro j hj
    have hgr : (w5.alloc (.cells #[.slice va l.length vc, .slice ya (l ++ [a3]).length yc, .slice none 0 0] 22)).heap[w5.heap.size]? = some (.cells #[.slice va l.length vc, .slice ya (l ++ [a3]).length yc, .slice none 0 0] 22 (0, 0)) := heap_alloc_new w5 _
    rcases Nat.lt_or_ge j 1 with h | h
    · obtain rfl : j = 0 := by omega
      exact ⟨va, l, vc, by rw [cell_of_get hgr]; rfl, hv.kept g36 (fun _ _ f => f), by omega⟩
    · rcases Nat.lt_or_ge j 2 with h | h
      · obtain rfl : j = 1 := by omega
        exact ⟨ya, l ++ [a3], yc, by rw [cell_of_get hgr]; rfl, o2.kept g56 (fun _ _ f => f), by simp; omega⟩
      · obtain rfl : j = 2 := by omega
        exact ⟨none, [], 0, by rw [cell_of_get hgr]; rfl, Ow.nil _, by simp⟩
  have HROW := hid hrow
  have HS := hid (And.intro ((HT.out.1.grew g3).grew g36) (And.intro HT.out.2 ((HG2.out.trans g3 (fun _ _ f => f)).trans g36 (fun _ _ f => f))))
  have HA1 := hid happ1
  have HA2 := hid happ2
  clear happ1 happ2 o1 q1 fr1 g4 o2 q2 fr2 g35 g56 g36 hrow hv g3 hlh HT HX HG2 HR
  go_wp2_with (at_builtin; first | (refine wpList_app rfl rfl rfl rfl HA1.out ?_; clear HA1) | refine wpList_app rfl rfl rfl rfl HA2.out ?_)
  simp only [List.length_append, List.length_cons, List.length_nil, Nat.zero_add] at HROW HS
  obtain ⟨w6, hw6⟩ : ∃ q, w5.alloc (.cells #[.slice va l.length vc, .slice ya (l.length + 1) yc, .slice none 0 0] 22) = q := ⟨_, rfl⟩
  rw [hw6] at HROW HS ⊢
  clear hw6 HA2
  obtain ⟨gr, hgr⟩ : ∃ n, w5.heap.size = n := ⟨_, rfl⟩
  rw [hgr] at HROW ⊢
  clear hgr
  go_loopw [14] (fun i wr => ∃ j : Nat, j ≤ 3 ∧ i = .int .i64 j ∧ Grew w6 wr) (fun i _ => 3 - (intOf i).toNat)
  case atStart => exact ⟨0, by omega, rfl, Fr.refl _ _⟩
  case round =>
    obtain ⟨j, hj, rfl, hG⟩ := hrel
    have HG := hid hG
    clear hG
    by_cases hj1 : j < 3
    · obtain ⟨ra, L, rc, hc, ho, hl7⟩ := HROW.out j hj1
      replace hc := HG.out.cell hc (fun f => f)
      have hcA := keep_alloc (.cells #[] 3) hc
      obtain ⟨cv, w7, happ, o7, q7, _⟩ := app_fresh (ho.kept HG.out (fun _ _ f => f)) (by omega) 22
      obtain ⟨ca, cc, rfl, _, _⟩ := o7.shape
      have HAPP := hid happ
      have G7 := hid (HG.out.trans q7 (fun _ _ f => f) : Grew w6 w7)
      have HO := hid (And.intro o7 ho)
      have hc7 := q7.cell hc (fun f => f)
      obtain ⟨f1, f2, _, hp6, hx6, _⟩ := HS.out.1
      have HX := hid (And.intro hp6 hx6)
      clear happ o7 q7 ho hp6 hx6
      go_wp2_with (at_builtin; refine wpList_app rfl rfl rfl rfl HAPP.out ?_)
      clear hcA
      by_cases hall : ∀ k ∈ L, A.has k
      · refine (collect_ok (d := d) HS.out.2.1 (by omega) (HX.out.1.grew G7.out) HO.out.1 (by omega) hall).mono ?_
        rintro e w8 ⟨ob, f4, tv, rfl, p4, t4, g4, _, _⟩
        obtain ⟨ta, tc, rfl, _, _⟩ := t4.shape
        have G8 := hid (G7.out.trans g4 (fun _ _ f => f) : Grew w6 w8)
        have H8 := hid (And.intro p4 t4)
        have hc8 := g4.cell hc7 (fun f => f)
        clear p4 t4 g4 hc hc7 HAPP
        go_wp2_with fail
        refine (rcollect_ok (d := d) HS.out.2.1 (by omega) (HX.out.2.grew G8.out) (HO.out.2.kept G8.out (fun _ _ f => f)) (by omega) hall).mono ?_
        rintro e w9 ⟨tb, ft, sv, rfl, p5, t5, g5, b5, _⟩
        obtain ⟨sa, sc, rfl, _, _⟩ := t5.shape
        have htl : (A.told d L).length ≤ 7 := by unfold AH.told; rw [CS.all_len]; exact hl7
        have hin := intsI (H8.out.2.kept g5 (fun _ _ f => f)) t5 (by omega)
        have h49 : Two w9 ob tb (A.gcd d (A.final d L)) (f4 ++ ft) := ⟨f4, ft, rfl, H8.out.1.grew g5, p5, fun b h1 h2 => by have := H8.out.1.lt b h1; have := b5 b h2; omega⟩
        have H9 := hid (And.intro h49 (And.intro (WF_gcd HS.out.2.1 d hall) (G8.out.trans g5 (fun _ _ f => f))))
        clear p5 t5 g5 b5 h49 H8 hc8 hall HX HO G7 G8 HG
        generalize A.told d L = T at *
        generalize A.gcd d (A.final d L) = B at *
        go_wp2_with fail
        refine hin.mono ?_
        rintro e w10 ⟨rfl, g10⟩
        have H10 := hid (And.intro (H9.out.1.grew g10) (And.intro H9.out.2.1 (H9.out.2.2.trans g10 (fun _ _ f => f))))
        clear hin g10 H9
        go_wp2_with fail
        refine (same_any H10.out.1 H10.out.2.1).mono ?_
        rintro e w11 ⟨rfl, g11⟩
        have H11 := hid (H10.out.2.2.trans g11 (fun _ _ f => f))
        clear g11 H10
        go_wp2
        go_roundw
        case rel => exact ⟨j + 1, by omega, by go_num, H11.out⟩
        case measure => simp [intOf]; omega
      · have hno : ∃ k ∈ L, ¬ A.has k := by
          apply Classical.byContradiction
          intro hn
          exact hall (fun k hk => Classical.byContradiction fun h => hn ⟨k, hk, h⟩)
        refine (collect_no (d := d) HS.out.2.1 (HX.out.1.grew G7.out) HO.out.1 (by omega) hno).mono ?_
        rintro e w' ⟨rfl, rfl⟩
        go_wp2_with fail
        refine (rcollect_no (d := d) HS.out.2.1 (HX.out.2.grew G7.out) (HO.out.2.kept G7.out (fun _ _ f => f)) (by omega) hno).mono ?_
        rintro e w' ⟨rfl, rfl⟩
        have hin := intsI (Ow.nil w7) (Ow.nil w7) (by simp)
        clear HX HO HAPP hc hc7 hall hno HG
        go_wp2_with fail
        refine hin.mono ?_
        rintro e w10 ⟨rfl, g10⟩
        have H10 := hid (G7.out.trans g10 (fun _ _ f => f) : Grew w6 w10)
        clear hin g10 G7
        go_wp2
        go_roundw
        case rel => exact ⟨j + 1, by omega, by go_num, H10.out⟩
        case measure => simp [intOf]; omega
    · go_wp2_with fail
      refine (same_any (HS.out.1.grew HG.out) HS.out.2.1).mono ?_
      rintro e w11 ⟨rfl, g11⟩
      have H11 := hid ((HS.out.2.2.trans HG.out (fun _ _ f => f)).trans g11 (fun _ _ f => f))
      clear g11 HG HS
      go_wp2
      go_ret
      exact ⟨rfl, H11.out.below⟩

/-! ### THE ROW's STEP: WRITTEN OUT: LEAVE IT -/
set_option maxRecDepth 100000 in
theorem lifted (os : Os) (started : os.Started) (H : Type) (enc : TypeId × Value → H) :
    ReturnsInHanded {} Try.checked os 18 .any (Rows.gcAllSpec.pre6 enc Try.prog Try.f18 Rows.gcAllRow.domain false) (Rows.gcAllSpec.post enc Try.prog Try.f18 false true false false) := by
  refine returnsInHanded_of_change (C := Try.checked) own started (by kernel_rfl) Try.func18
    (ChangeSpec.witness6 (enc := enc) (C := Try.checked) false ⟨#[], #[.slice none 0 0, .slice none 0 0, .int .i64 0, .int .i64 0], []⟩ 8 (by kernel_rfl) (by kernel_rfl) (by kernel_rfl) (by kernel_rfl)) ?_
  intro W base args ds gs before hval0 hW hcnd _
  have hval : ∀ (j : Nat) t v, Try.f18.params[j]? = some t → args[j]? = some v → Value.okWide Try.prog W .any base t v := hval0
  have hW' := hW
  obtain ⟨p, q, hA0, hV, rfl, hfz, hnd⟩ := hW
  have hA : DataW.TrodAll enc Try.prog W 0 (fun _ => true) true Try.f18.params.toList args.toList ds p := hA0
  rw [Try.params18] at hA hval
  obtain ⟨v0, vs0, d0, ds0, p0, q0, hargs, rfl, rfl, h0, r0⟩ := trodAll_cons hA
  obtain ⟨v1, vs1, d1, ds1, p1, q1, rfl, rfl, rfl, h1, r1⟩ := trodAll_cons r0
  obtain ⟨v2, vs2, d2, ds2, p2, q2, rfl, rfl, rfl, h2, r2⟩ := trodAll_cons r1
  obtain ⟨v3, vs3, d3, ds3, p3, q3, rfl, rfl, rfl, h3, r3⟩ := trodAll_cons r2
  obtain ⟨rfl, rfl, rfl⟩ := trodAll_nil r3
  obtain rfl : args = #[v0, v1, v2, v3] := by cases args; simp_all
  obtain ⟨rfl, rfl⟩ := trodVars_none hV
  obtain ⟨a0, len0, cap0, rfl⟩ := okWide_slice Try.underlying22 (hval 0 22 v0 rfl rfl)
  have k0 := h0
  have lt0 : ∀ x ∈ p0, x.block < W.heap.size := by obtain ⟨m, hm⟩ := k0; exact DataW.trod_lt m _ _ _ hm
  obtain ⟨z0, w0⟩ : ∃ zs, IsRow .i64 W a0 len0 cap0 zs := by
    obtain ⟨fuel, hf⟩ := h0
    rcases open_ints Try.underlying22 Try.underlying3 (by kernel_rfl) hf with ⟨hcs, _⟩ | ⟨x, l, c, zs, hcs, _, hl, hm, hz, _, hcell, hwz⟩
    · simp [Value.cells] at hcs
      obtain ⟨rfl, rfl, rfl⟩ := hcs
      exact ⟨[], .inl ⟨rfl, rfl, rfl, rfl⟩⟩
    · simp [Value.cells] at hcs
      obtain ⟨rfl, rfl, rfl⟩ := hcs
      exact ⟨zs, .inr ⟨_, rfl, hl, hm, by simpa using hz, hcell, hwz⟩⟩
  obtain ⟨a1, len1, cap1, rfl⟩ := okWide_slice Try.underlying22 (hval 1 22 v1 rfl rfl)
  have k1 := h1
  have lt1 : ∀ x ∈ p1, x.block < W.heap.size := by obtain ⟨m, hm⟩ := k1; exact DataW.trod_lt m _ _ _ hm
  obtain ⟨z1, w1⟩ : ∃ zs, IsRow .i64 W a1 len1 cap1 zs := by
    obtain ⟨fuel, hf⟩ := h1
    rcases open_ints Try.underlying22 Try.underlying3 (by kernel_rfl) hf with ⟨hcs, _⟩ | ⟨x, l, c, zs, hcs, _, hl, hm, hz, _, hcell, hwz⟩
    · simp [Value.cells] at hcs
      obtain ⟨rfl, rfl, rfl⟩ := hcs
      exact ⟨[], .inl ⟨rfl, rfl, rfl, rfl⟩⟩
    · simp [Value.cells] at hcs
      obtain ⟨rfl, rfl, rfl⟩ := hcs
      exact ⟨zs, .inr ⟨_, rfl, hl, hm, by simpa using hz, hcell, hwz⟩⟩
  obtain ⟨a2, rfl, rfl, rfl, w2⟩ := open_int Try.underlying3 (hval 2 3 v2 rfl rfl) h2
  obtain ⟨a3, rfl, rfl, rfl, w3⟩ := open_int Try.underlying3 (hval 3 3 v3 rfl rfl) h3
  clear hA0 hval0
  refine (walk a0 len0 cap0 z0 a1 len1 cap1 z1 a2 a3 W w0 w1 w2 w3).mono fun e W' ⟨he, bel⟩ => ?_
  subst he
  exact ⟨_, rfl, _, _, _, [], _, [], hW', trodAll_mk1 (shut_bool Try.underlying4 _), (trodAll_cons_mk (Below.trod laidOut (by kernel_rfl) (of_decide_eq_true (by kernel_rfl)) k0 bel lt0) (trodAll_cons_mk (Below.trod laidOut (by kernel_rfl) (of_decide_eq_true (by kernel_rfl)) k1 bel lt1) (trodAll_cons_mk (shut_int Try.underlying3 w2) (trodAll_cons_mk (shut_int Try.underlying3 w3) trodAll_mk0)))), rfl, bel.frame _, fun h => by cases h⟩

theorem over : Rows.gcAllRow.holds Try.pinned (OpenSpec.ofChange Rows.gcAllSpec) :=
  OpenClaim.holds_of_wide 18 Try.f18 rfl rfl rfl rfl rfl rfl rfl ⟨rfl, rfl, rfl, rfl, rfl⟩ rfl rfl rfl rfl rfl (by kernel_rfl) Try.func18 (by kernel_rfl)
    (of_decide_eq_true (by kernel_rfl)) (by unfold Func.isWrapper; first | (rw [if_pos (by decide +kernel)]; kernel_rfl) | (rw [if_neg (by decide +kernel)]; exact ⟨rfl, rfl⟩))
    (fun os started H enc _ => lifted os started H enc)

/-- the statement -/
theorem proved : Rows.GcAllSaid := over
end Go.Proofs.Ytjhdnbediipibaa.gcAll

namespace Go.Proofs.Ytjhdnbediipibaa
theorem gcAll_holds : Rows.GcAllSaid := gcAll.proved
#print axioms gcAll_holds
end Go.Proofs.Ytjhdnbediipibaa
