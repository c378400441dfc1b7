/-
  Objects stand one behind the other, two words at least; what has no room is refused, and takes none: 'thunk/thunklaw11.HeapRoom' returns true, for every input.
  No condition beyond the given row's own.
-/
import Derived.Test.YtjhdnbediipibaaK4
import Derived.Test.YtjhdnbediipibaaRows
import Derived.WalkKit
import Derived.ProofKit
import Derived.OpenShut
import Derived.ShutString
import Derived.ChangeOld
import Derived.Below
namespace Go.Proofs.Ytjhdnbediipibaa.heapRoom
open Go.ChangeShapes Go.WideShapes Go.ChangeAt Go.RowKit
open Go.ChangeMaps (open_string shut_string)
set_option linter.unusedVariables false

theorem own : ownKnob Try.prog.godebug = none := by kernel_rfl
theorem laidOut : laidOutB Try.prog = true := by kernel_rfl

/-- WHAT THE WALK IS TOLD OF A SLICE OF INTEGERS THAT CAME IN: it is nil; or it leads to a row of 'cap' cells, the numbers 'zs' (the first 'len' are its elements, the rest its spare room), each fitting its kind. -/
def IsRow (k : IntKind) (w : World) (a : Option Addr) (len cap : Nat) (zs : List Int) : Prop :=
  (a = none ∧ len = 0 ∧ cap = 0 ∧ zs = []) ∨
  ∃ x, a = some x ∧ len ≤ cap ∧ cap ≤ maxLen ∧ zs.length = cap ∧ (∀ i, i < zs.length → w.cell? (x.add i) = some (.int k (zs.getD i 0))) ∧ ∀ n ∈ zs, (Lit.int k n).wf = true

/-! ### STEP 1: THE WALK: the Go text returns true, AND WRITES NOTHING THAT WAS THERE: 'Below w.heap.size w w'' (Derived/Below.lean: '.refl', '.alloc', '.drew', '.setCell' at a new block, '.trans'). Open each 'IsRow' by 'rcases' AHEAD of 'go_enter'; part every test ahead of the walk. -/
/-- a round -/
def RoomRel (w : World) (hb : Nat) (wd : Int) (uv wv : Value) (wr : World) : Prop :=
  ∃ A fp, PH wr hb A fp ∧ A.WF ∧ A.words = wd ∧ uv = .int .i64 A.used ∧ Beside w.heap.size fp wr wv A.keys ∧ Grew w wr ∧ ∀ b ∈ fp, w.heap.size ≤ b
theorem max_one (j : Nat) : ∀ w0 : World, (Builtin.max_ #[3, 3] 3 #[.int .i64 2, .int .i64 (↑j + 1)]).run Try.prog w0 = .ok (.int .i64 (osz [] (List.replicate j 0))) w0 := by
  intro w0
  have hmd : max (1 + (0 : Int) + j) 2 = if (j : Int) + 1 > 2 then (j : Int) + 1 else 2 := by
    rw [Int.max_def]; split <;> split <;> omega
  simp [Builtin.max_, Builtin.max2, osz]
  split <;> simp_all <;> omega

/-! ### STEP 1: THE WALK -/
set_option maxHeartbeats 4000000 in
set_option maxRecDepth 100000 in
theorem walk (a0 : Int) (a1 : Option Addr) (len1 cap1 : Nat) (z1 : List Int) (w : World) (w0 : (Lit.int .i64 a0).wf = true) (w1 : IsRow .i64 w a1 len1 cap1 z1) :
    Calls Try.prog 9 #[.int .i64 a0, .slice a1 len1 cap1] w fun e w' => e = .returned (.bool true) ∧ Below w.heap.size w w' := by
  have hr1 : RowIn w a1 len1 cap1 := by
    rcases w1 with ⟨_, h, _⟩ | ⟨x, h1, h2, h3, h4, h5, _⟩
    · exact ⟨by simp [h], fun i hi => by omega⟩
    · exact ⟨by omega, fun i hi => ⟨x, _, h1, h2, h5 i (by omega)⟩⟩
  have HR := hid hr1
  have hlm := hr1.1
  unfold maxLen at hlm
  clear w0 w1 hr1
  have hk := fun w => within11_any a0 300 w (by omega) (by omega)
  have b0 := Int.emod_nonneg a0 (show (300 : Int) ≠ 0 by omega)
  have b1 := Int.emod_lt_of_pos a0 (show (0 : Int) < 300 by omega)
  generalize a0 % 300 = wd at *
  have hkw := known11_any w
  go_enter Try.func9, Try.ntmps9
  go_wp2_with fail
  refine hkw.mono ?_
  rintro e w1 ⟨rfl, g1⟩
  have HG := hid g1
  clear g1 hkw
  go_wp2_with fail
  refine (hk _).mono ?_
  rintro e w' ⟨rfl, rfl⟩
  clear hk
  go_wp2_with fail
  refine (new_any _ _).mono ?_
  rintro e w2 ⟨hb, f1, rfl, p1, g2, c1⟩
  have HS := hid (show RoomRel w hb wd (.int .i64 0) (.slice none 0 0) w2 from ⟨_, f1, p1, WF_new wd (by omega) (by omega), rfl, rfl, ⟨Ow.nil _, fun g hg => (by cases hg)⟩, HG.out.trans g2 (fun _ _ f => f), fun b hb => Nat.le_trans HG.out.size (c1 b hb)⟩)
  clear p1 g2 c1 HG
  go_wp2
  go_loopw [7, 8, 9] (fun uv wv i wr => ∃ k : Nat, k ≤ 80 ∧ k ≤ len1 ∧ i = .int .i64 k ∧ RoomRel w hb wd uv wv wr) (fun _ _ i _ => 80 - (intOf i).toNat)
  case atStart => exact ⟨0, by omega, Nat.zero_le _, rfl, HS.out⟩
  case round =>
    clear HS
    obtain ⟨k, hk, hkl, rfl, A, fp, r1, r2, r3, rfl, r5, r6, r7⟩ := hrel
    by_cases hlt : k < len1 ∧ k < 80
    · obtain ⟨hlt1, hlt2⟩ := hlt
      obtain ⟨x, v, rfl, hcap, hc⟩ := HR.out.2 k hlt1
      replace hc := r6.cell hc (fun f => f)
      obtain ⟨j, hj, hj20⟩ : ∃ j : Nat, v % 20 = j ∧ j < 20 := ⟨(v % 20).toNat, by omega, by omega⟩
      have hkj := fun w => within11_any v 20 w (by omega) (by omega)
      rw [hj] at hkj
      have hmax := max_one j
      obtain ⟨w2, hmk, mo, mg⟩ := make_zero wr j (by omega)
      have hal := alloc_any (r1.grew mg) r2.fine 4 (Ow.nil _) mo
      have hS1 : 2 ≤ osz [] (List.replicate j 0) := osz_ge _ _
      have hS2 : osz [] (List.replicate j 0) ≤ 21 := by simp [osz]; omega
      have hu0 := r2.u0
      have huw := r2.uw
      obtain ⟨S, hS⟩ : ∃ S, osz [] (List.replicate j 0) = S := ⟨_, rfl⟩
      obtain ⟨u, hu⟩ : ∃ u, A.used = u := ⟨_, rfl⟩
      have hok : A.AllocOk 4 [] (List.replicate j 0) ↔ u + S ≤ wd := by
        constructor
        · intro h; have := h.2.2; rw [hu, hS, r3] at this; exact this
        · intro h; exact ⟨⟨by decide, by decide, by simp, by simp; omega, fun e => by simp at e, fun e => by simp at e, fun e => by simp at e⟩, by simp, by rw [hu, hS, r3]; exact h⟩
      rw [hS] at hmax hS1 hS2
      rw [hu] at hu0 huw ⊢
      rw [r3] at huw
      have huu : (u != u) = false := by simp
      have H := hid (And.intro r1 (And.intro r2 (And.intro r3 (And.intro r5 (And.intro r6 (And.intro r7 (And.intro mg (And.intro hu (And.intro hS hok)))))))))
      clear r1 r2 r3 r5 r6 r7 mo mg hok hS hu hj
      go_wp2_with fail
      refine (hkj _).mono ?_
      rintro e w' ⟨rfl, rfl⟩
      clear hkj hc
      go_wp2_with fail
      refine hal.mono ?_
      intro e w3 hp
      clear hmk hal
      obtain ⟨r1, r2, r3, r5, r6, r7, mg, hu, hS, hok⟩ := H.out
      unfold AllocPost at hp
      by_cases hroom : u + S ≤ wd
      · rw [if_pos (hok.2 hroom), hu] at hp
        obtain ⟨rfl, fp', k1, k2, k3⟩ := hp
        have g3 : Grew w w3 := grew_step (r6.trans mg (fun _ _ f => f)) k2 r7
        have k3' : ∀ b ∈ fp', w.heap.size ≤ b := fun b hb => by
          have a1 := r6.size
          have a2 := mg.size
          rcases k3 b hb with e | e
          · exact r7 b e
          · omega
        have hb3 := (r5.grew mg).made k2 k3
        have hkeys : (A.add 4 [] (List.replicate j 0)).keys = A.keys ++ [u] := by
          show (A.objs ++ [(A.used, (⟨4, [], List.replicate j 0⟩ : HObj))]).map (·.1) = _
          rw [List.map_append, hu]; rfl
        have hused : (A.add 4 [] (List.replicate j 0)).used = u + S := by show A.used + osz _ _ = _; rw [hu, hS]
        have hkl2 : A.keys.length ≤ 500000 := by have := r2.len; simp [AH.keys]; omega
        have g4 := Grew.alloc w3 (.cells #[.int .i64 u] 3)
        obtain ⟨wv', w4, happ, hb4, f4, _⟩ := (hb3.grew g4).app (Nat.le_trans g3.size g4.size) (fun x hx => Nat.lt_of_lt_of_le (k1.lt x hx) g4.size) (Ow.one w3 u) (by simp; omega) 22
        rw [← hkeys] at hb4
        have k4 := (k1.grew g4).kept f4 (fun b hb e => (hb3.own b e).2 hb)
        have g5 : Grew w w4 := grew_step (g3.trans g4 (fun _ _ f => f)) f4 (fun i e => (hb3.own i e).1)
        have hus := usedI k4 hused
        have HN := hid (show RoomRel w hb wd (.int .i64 (u + S)) wv' w4 from ⟨_, fp', k4, WF_add r2 (hok.2 hroom), r3, by rw [hused], hb4, g5, k3'⟩)
        have HAPP := hid happ
        have huu2 : (u + S != u + S) = false := by simp
        clear r1 r2 r3 r5 r6 r7 mg hu hS hok k1 k2 k3 g3 k3' hb3 hkeys hused hkl2 g4 happ hb4 f4 k4 g5 H
        go_wp2_with (first | (at_builtin; refine wpList_app rfl rfl rfl rfl HAPP.out ?_) | (go_at_call 27; refine hus.mono ?_; rintro e w' ⟨rfl, rfl⟩))
        go_roundw
        case rel => exact ⟨k + 1, by omega, by omega, by go_num, HN.out⟩
        case measure => simp [intOf]; omega
      · rw [if_neg (fun h => hroom (hok.1 h))] at hp
        obtain ⟨rfl, d, rfl⟩ := hp
        have g3 : Grew wr (w2.drewN d) := mg.drewN d
        have hus := usedI (r1.grew g3) hu
        have HN := hid (show RoomRel w hb wd (.int .i64 u) u8 (w2.drewN d) from ⟨A, fp, r1.grew g3, r2, r3, by rw [hu], r5.grew g3, r6.trans g3 (fun _ _ f => f), r7⟩)
        clear r1 r2 r3 r5 r6 r7 mg hu hS hok g3 H
        go_wp2_with (go_at_call 27; refine hus.mono ?_; rintro e w' ⟨rfl, rfl⟩)
        go_roundw
        case rel => exact ⟨k + 1, by omega, by omega, by go_num, HN.out⟩
        case measure => simp [intOf]; omega
    · have hor : ¬ k < len1 ∨ (k < len1 ∧ ¬ k < 80) := by by_cases h : k < len1 <;> simp_all
      have hob := objects_any r1 r2
      have hwd := fun wx (g : Grew wr wx) => wordsI (r1.grew g) r3
      have hww : (wd == wd) = true := by simp
      have hkl2 : A.keys.length ≤ 1000000 := by have := r2.len; simp [AH.keys]; omega
      obtain ⟨wa, wc, rfl, _, _⟩ := r5.ow.shape
      have HB := hid (And.intro r5.ow r6)
      clear r1 r2 r3 r5 r6 r7
      rcases hor with hlt1 | ⟨hlt1, hlt2⟩
      all_goals clear hlt
      all_goals go_wp2_with fail
      all_goals refine hob.mono ?_
      all_goals rintro e w3 ⟨v3, rfl, o3, g3, _⟩
      all_goals have hin := intsI o3 (HB.out.1.kept g3 (fun _ _ f => f)) hkl2
      all_goals have HG3 := hid g3
      all_goals clear o3 g3 hob
      all_goals go_wp2_with fail
      all_goals refine hin.mono ?_
      all_goals rintro e w4 ⟨rfl, g4⟩
      all_goals have HG4 := hid (HG3.out.trans g4 (fun _ _ f => f))
      all_goals clear g4 hin
      all_goals go_wp2_with fail
      all_goals refine (hwd _ HG4.out).mono ?_
      all_goals rintro e w' ⟨rfl, rfl⟩
      all_goals have HW := hid (HB.out.2.trans HG4.out (fun _ _ f => f))
      all_goals clear hwd HG3
      all_goals go_wp2
      all_goals go_ret
      all_goals exact ⟨rfl, HW.out.below⟩

/-! ### THE ROW's STEP: WRITTEN OUT: LEAVE IT -/
set_option maxRecDepth 100000 in
theorem lifted (os : Os) (started : os.Started) (H : Type) (enc : TypeId × Value → H) :
    ReturnsInHanded {} Try.checked os 9 .any (Rows.heapRoomSpec.pre6 enc Try.prog Try.f9 Rows.heapRoomRow.domain false) (Rows.heapRoomSpec.post enc Try.prog Try.f9 false true false false) := by
  refine returnsInHanded_of_change (C := Try.checked) own started (by kernel_rfl) Try.func9
    (ChangeSpec.witness6 (enc := enc) (C := Try.checked) false ⟨#[], #[.int .i64 0, .slice none 0 0], []⟩ 8 (by kernel_rfl) (by kernel_rfl) (by kernel_rfl) (by kernel_rfl)) ?_
  intro W base args ds gs before hval0 hW hcnd _
  have hval : ∀ (j : Nat) t v, Try.f9.params[j]? = some t → args[j]? = some v → Value.okWide Try.prog W .any base t v := hval0
  have hW' := hW
  obtain ⟨p, q, hA0, hV, rfl, hfz, hnd⟩ := hW
  have hA : DataW.TrodAll enc Try.prog W 0 (fun _ => true) true Try.f9.params.toList args.toList ds p := hA0
  rw [Try.params9] at hA hval
  obtain ⟨v0, vs0, d0, ds0, p0, q0, hargs, rfl, rfl, h0, r0⟩ := trodAll_cons hA
  obtain ⟨v1, vs1, d1, ds1, p1, q1, rfl, rfl, rfl, h1, r1⟩ := trodAll_cons r0
  obtain ⟨rfl, rfl, rfl⟩ := trodAll_nil r1
  obtain rfl : args = #[v0, v1] := by cases args; simp_all
  obtain ⟨rfl, rfl⟩ := trodVars_none hV
  obtain ⟨a0, rfl, rfl, rfl, w0⟩ := open_int Try.underlying3 (hval 0 3 v0 rfl rfl) h0
  obtain ⟨a1, len1, cap1, rfl⟩ := okWide_slice Try.underlying22 (hval 1 22 v1 rfl rfl)
  have k1 := h1
  have lt1 : ∀ x ∈ p1, x.block < W.heap.size := by obtain ⟨m, hm⟩ := k1; exact DataW.trod_lt m _ _ _ hm
  obtain ⟨z1, w1⟩ : ∃ zs, IsRow .i64 W a1 len1 cap1 zs := by
    obtain ⟨fuel, hf⟩ := h1
    rcases open_ints Try.underlying22 Try.underlying3 (by kernel_rfl) hf with ⟨hcs, _⟩ | ⟨x, l, c, zs, hcs, _, hl, hm, hz, _, hcell, hwz⟩
    · simp [Value.cells] at hcs
      obtain ⟨rfl, rfl, rfl⟩ := hcs
      exact ⟨[], .inl ⟨rfl, rfl, rfl, rfl⟩⟩
    · simp [Value.cells] at hcs
      obtain ⟨rfl, rfl, rfl⟩ := hcs
      exact ⟨zs, .inr ⟨_, rfl, hl, hm, by simpa using hz, hcell, hwz⟩⟩
  clear hA0 hval0
  refine (walk a0 a1 len1 cap1 z1 W w0 w1).mono fun e W' ⟨he, bel⟩ => ?_
  subst he
  exact ⟨_, rfl, _, _, _, [], _, [], hW', trodAll_mk1 (shut_bool Try.underlying4 _), (trodAll_cons_mk (shut_int Try.underlying3 w0) (trodAll_cons_mk (Below.trod laidOut (by kernel_rfl) (of_decide_eq_true (by kernel_rfl)) k1 bel lt1) trodAll_mk0)), rfl, bel.frame _, fun h => by cases h⟩

theorem over : Rows.heapRoomRow.holds Try.pinned (OpenSpec.ofChange Rows.heapRoomSpec) :=
  OpenClaim.holds_of_wide 9 Try.f9 rfl rfl rfl rfl rfl rfl rfl ⟨rfl, rfl, rfl, rfl, rfl⟩ rfl rfl rfl rfl rfl (by kernel_rfl) Try.func9 (by kernel_rfl)
    (of_decide_eq_true (by kernel_rfl)) (by unfold Func.isWrapper; first | (rw [if_pos (by decide +kernel)]; kernel_rfl) | (rw [if_neg (by decide +kernel)]; exact ⟨rfl, rfl⟩))
    (fun os started H enc _ => lifted os started H enc)

/-- the statement -/
theorem proved : Rows.HeapRoomSaid := over
end Go.Proofs.Ytjhdnbediipibaa.heapRoom

namespace Go.Proofs.Ytjhdnbediipibaa
theorem heapRoom_holds : Rows.HeapRoomSaid := heapRoom.proved
#print axioms heapRoom_holds
end Go.Proofs.Ytjhdnbediipibaa
