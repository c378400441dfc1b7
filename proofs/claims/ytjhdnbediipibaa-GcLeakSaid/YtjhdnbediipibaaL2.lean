/-
  A long row of selectors of tails of which each hangs on the last one is short behind a collection: 'thunk/thunklaw12.GcLeak' returns true, for every input.
  No condition beyond the given row's own.
-/
import Derived.Test.YtjhdnbediipibaaP5
import Derived.Test.YtjhdnbediipibaaRows
import Derived.WalkKit
import Derived.ProofKit
import Derived.OpenShut
import Derived.ShutString
import Derived.ChangeOld
import Derived.Below
namespace Go.Proofs.Ytjhdnbediipibaa.gcLeak
open Go.ChangeShapes Go.WideShapes Go.ChangeAt Go.RowKit
open Go.ChangeMaps (open_string shut_string)
set_option linter.unusedVariables false      -- a walk need not use every 'w<i>' (that an integer argument fits its kind)

theorem own : ownKnob Try.prog.godebug = none := by kernel_rfl
theorem laidOut : laidOutB Try.prog = true := by kernel_rfl

/-! ### STEP 1: THE WALK: the Go text returns true. 'Grown w w'': the world has at most new blocks (Derived/RowKit3.lean). Part the cases AHEAD of 'go_enter' where a test parts the walk; take each callee by a contract of your own. -/
/-- what an Alloc of the round leaves -/
theorem rel_made {w wr w1 : World} {hb : Nat} {A : AH} {fpr : List Nat} {t : Int} {p n : List Int} {e : Ending} {u : Int} (hu : A.used = u) (r2 : Grew w wr) (r3 : ∀ b ∈ fpr, w.heap.size ≤ b) (h : MadePost wr hb A fpr t p n e w1) :
    e = .returned (.tuple #[Kv u, .bool true]) ∧ ∃ fp', PH w1 hb (A.add t p n) fp' ∧ Grew w w1 ∧ ∀ b ∈ fp', w.heap.size ≤ b := by
  subst hu
  obtain ⟨rfl, fp', p1, p2, p3⟩ := h
  refine ⟨rfl, fp', p1, grew_step r2 p2 r3, fun b hb' => ?_⟩
  have := r2.size
  rcases p3 b hb' with h | h
  · exact r3 b h
  · omega
theorem Ow.two (w : World) (y z : Int) : Ow (w.alloc (.cells #[.int .i64 y, .int .i64 z] 3)) (.slice (some ⟨w.heap.size, 0, none⟩) 2 2) [y, z] :=
  ⟨by simp, .inr ⟨w.heap.size, 2, #[.int .i64 y, .int .i64 z], rfl, Nat.zero_le _, heap_alloc_new w _, Nat.le_refl _, by simp [maxLen], by simp, by simp⟩⟩

/-- a round of the law -/
def Rel (w : World) (e hb : Nat) (i : Nat) (last : Int) (wr : World) : Prop :=
  ∃ A fpr, PH wr hb A fpr ∧ Grew w wr ∧ (∀ b ∈ fpr, w.heap.size ≤ b) ∧ LeakInv e i A last

set_option maxHeartbeats 4000000 in
set_option maxRecDepth 100000 in
/-! ### STEP 1: THE WALK -/
theorem walk (a0 : Int) (a1 : Int) (w0 : (Lit.int .i64 a0).wf = true) (w1 : (Lit.int .i64 a1).wf = true) (w : World) :
    Calls Try.prog 4 #[.int .i64 a0, .int .i64 a1] w fun e w' => e = .returned (.bool true) ∧ Below w.heap.size w w' := by
  clear w0 w1
  obtain ⟨q, hq, hq9⟩ : ∃ q : Nat, a0 % 300 = q ∧ q < 300 := ⟨(a0 % 300).toNat, by omega, by omega⟩
  obtain ⟨d, hd, hd12⟩ : ∃ d : Nat, a1 % 20 = d ∧ d < 20 := ⟨(a1 % 20).toNat, by omega, by omega⟩
  have hk1 := fun w => within12_any a0 300 w (by omega) (by omega)
  have hk2 := fun w => within12_any a1 20 w (by omega) (by omega)
  rw [hq] at hk1
  rw [hd] at hk2
  have hkw := known12_any w
  clear hq hd
  go_enter Try.func4, Try.ntmps4
  go_wp2_with fail
  refine hkw.mono ?_
  rintro e w1 ⟨rfl, g1⟩
  have HG1 := hid g1
  clear g1
  go_wp2_with fail
  refine (new_any _ _).mono ?_
  rintro e w2 ⟨hb, fp, rfl, p2, g2, b2⟩
  have HP2 := hid (And.intro p2 (And.intro (HG1.out.trans g2 (fun _ _ f => f)) (fun b hb' => Nat.le_trans HG1.out.size (b2 b hb'))))
  clear p2 g2 b2 HG1 hkw
  go_wp2_with fail
  refine (hk1 _).mono ?_
  rintro e w' ⟨rfl, rfl⟩
  go_wp2_with fail
  refine (hk2 _).mono ?_
  rintro e w' ⟨rfl, rfl⟩
  go_wp2_with fail
  obtain ⟨p2, g2, b2⟩ := HP2.out
  refine (alloc_yes p2 leak0_wf.1 7 (Ow.nil _) (Ow.nil _) leak0_ok.1).mono ?_
  intro e w3 hp
  obtain ⟨rfl, fp3, p3, g3, b3⟩ := rel_made (u := 0) rfl g2 b2 hp
  have HP3 := hid (And.intro p3 (And.intro g3 b3))
  clear p2 g2 b2 p3 g3 b3 hp HP2
  go_wp2_with fail
  obtain ⟨p3, g3, b3⟩ := HP3.out
  refine (alloc_yes (p3.grew (Grew.alloc w3 (.cells #[.int .i64 0, .int .i64 0] 3))) leak0_wf.2.1 2 (Ow.two w3 0 0) (Ow.nil _) leak0_ok.2.1).mono ?_
  intro e w4 hp
  obtain ⟨rfl, fp4, p4, g4, b4⟩ := rel_made (u := 2) (by decide) (g3.trans (Grew.alloc w3 _) (fun _ _ f => f)) b3 hp
  have HP4 := hid (And.intro p4 (And.intro g4 b4))
  clear p3 g3 b3 p4 g4 b4 hp HP3
  go_wp2_with fail
  obtain ⟨p4, g4, b4⟩ := HP4.out
  have ho1 := (Ow.one w4 2).kept (Grew.alloc _ (.cells #[.int .i64 1] 3)) (fun _ _ f => f)
  have ho2 := Ow.one (w4.alloc (.cells #[.int .i64 2] 3)) 1
  have hg3 : Grew w4 ((w4.alloc (.cells #[.int .i64 2] 3)).alloc (.cells #[.int .i64 1] 3)) := ((Fr.refl _ w4).alloc _).alloc _
  simp only [World.size_alloc] at ho1 ho2
  refine (alloc_yes (p4.grew hg3) leak0_wf.2.2.1 6 ho1 ho2 leak0_ok.2.2).mono ?_
  intro e w5 hp
  obtain ⟨rfl, fp5, p5, g5, b5⟩ := rel_made (u := 5) (by decide) (g4.trans hg3 (fun _ _ f => f)) b4 hp
  have HS := hid (show Rel w (d + 1) hb 0 5 w5 from ⟨leak0, fp5, p5, g5, b5, leak0_inv _⟩)
  clear p4 g4 b4 p5 g5 b5 hp ho1 ho2 hg3 HP4
  go_wp2
  go_loopw [5, 12, 14] (fun h v i wr => ∃ (k hb : Nat) (last : Int), k ≤ q + 1 ∧ h = .pointer (some ⟨hb, 0, none⟩) ∧ v = .int .i64 last ∧ i = .int .i64 k ∧ Rel w (d + 1) hb k last wr) (fun _ _ i _ => q + 1 - (intOf i).toNat)
  case atStart => exact ⟨0, _, 5, Nat.zero_le _, rfl, rfl, rfl, HS.out⟩
  case round =>
    clear HS
    obtain ⟨k, hb, last, hk, rfl, rfl, rfl, A, fpr, r1, r2, r3, r4⟩ := hrel
    by_cases hlt : k < q + 1
    · have ok1 := leak_ok1 r4 (by omega)
      have ok2 := leak_ok2 r4 (by omega)
      have wf2 := WF_add r4.wf ok1
      have hmid := leak_mid r4 (by omega)
      have hu := r4.wf.u0
      have hul := r4.used
      have H := hid (And.intro ok1 (And.intro ok2 (And.intro wf2 (And.intro hmid r4.wf))))
      have HR := hid (And.intro r1 (And.intro r2 r3))
      clear ok1 ok2 wf2 hmid r1 r2 r3 r4
      generalize hus : A.used = us at *
      go_wp2_with fail
      obtain ⟨r1, r2, r3⟩ := HR.out
      refine (alloc_yes (r1.grew (Grew.alloc wr (.cells #[.int .i64 last, .int .i64 last] 3))) H.out.2.2.2.2 2 (Ow.two wr last last) (Ow.nil _) H.out.1).mono ?_
      intro e w6 hp
      obtain ⟨rfl, fp6, p6, g6, b6⟩ := rel_made hus (r2.trans (Grew.alloc wr _) (fun _ _ f => f)) r3 hp
      have HP6 := hid (And.intro p6 (And.intro g6 b6))
      clear r1 r2 r3 p6 g6 b6 hp
      go_wp2_with fail
      obtain ⟨p6, g6, b6⟩ := HP6.out
      have ho1 := (Ow.one w6 us).kept (Grew.alloc _ (.cells #[.int .i64 ((k % 2 : Nat) : Int)] 3)) (fun _ _ f => f)
      have ho2 := Ow.one (w6.alloc (.cells #[.int .i64 us] 3)) ((k % 2 : Nat) : Int)
      have hg3 : Grew w6 ((w6.alloc (.cells #[.int .i64 us] 3)).alloc (.cells #[.int .i64 ((k % 2 : Nat) : Int)] 3)) := ((Fr.refl _ w6).alloc _).alloc _
      simp only [World.size_alloc] at ho1 ho2
      refine (alloc_yes (p6.grew hg3) H.out.2.2.1 6 ho1 ho2 H.out.2.1).mono ?_
      intro e w7 hp
      have hat2 : (A.add 2 [last, last] []).used = us + 3 := by show A.used + osz _ _ = _; rw [hus]; simp [osz]; omega
      obtain ⟨rfl, fp7, p7, g7, b7⟩ := rel_made hat2 (g6.trans hg3 (fun _ _ f => f)) b6 hp
      have HM := hid H.out.2.2.2.1
      have HP7 := hid (And.intro p7 (And.intro g7 b7))
      clear p6 g6 b6 p7 g7 b7 ho1 ho2 hg3 hp hat2 HP6 HR H
      generalize (A.add 2 [last, last] []).add 6 [us] [((k % 2 : Nat) : Int)] = B at *
      clear hus
      obtain ⟨kk, hkk⟩ : ∃ kk : Int, (k : Int) = kk := ⟨_, rfl⟩
      obtain ⟨ee, hee⟩ : ∃ ee : Int, 1 + (d : Int) = ee := ⟨_, rfl⟩
      obtain ⟨mm, hmm⟩ : ∃ mm : Int, ((k % (d + 1) : Nat) : Int) = mm := ⟨_, rfl⟩
      have hrem : kk % ee = mm := by rw [← hkk, ← hee, ← hmm, Int.natCast_emod]; congr 1; push_cast; omega
      have hk0 : 0 ≤ kk := by omega
      have hk300 : kk ≤ 300 := by omega
      have he1 : 1 ≤ ee := by omega
      have he20 : ee ≤ 20 := by omega
      have hm1 : k % (d + 1) ≤ d := by have := Nat.mod_lt k (show 0 < d + 1 by omega); omega
      rw [hkk, hee]
      by_cases hmod : k % (d + 1) = d
      · have hme : (mm == ee - 1) = true := by rw [beq_iff_eq]; omega
        have HE := hid (And.intro hkk (And.intro hee (And.intro hmod hlt)))
        clear hkk hee hmm hmod hm1 hlt hul hk hu
        go_upto_region 22 with (fail)
        clear hrem hme
        go_wp2_with fail
        obtain ⟨p7, g7, b7⟩ := HP7.out
        have hw := HM.out.wf
        have hh := HM.out.has
        refine (collect_ok hw (d := 20) (by omega) (p7.grew (Grew.alloc w7 (.cells #[.int .i64 (us + 3)] 3))) (Ow.one w7 (us + 3)) (by simp) (by intro k hk; rw [List.mem_singleton] at hk; subst hk; exact hh)).mono ?_
        rintro e w8 ⟨ob, fp8, tv, rfl, p8, t8, g8, b8, c8⟩
        obtain ⟨rfl, rfl, hmod, hlt⟩ := HE.out
        obtain ⟨l1, l2, l3⟩ := leak_coll HM.out (by omega) (by omega)
        rw [l1] at t8
        obtain ⟨g, cap, rfl, hcap, _, _, hcell⟩ := t8.at (by simp)
        have hc0 : w8.cell? ⟨g, 0, none⟩ = some (Kv 0) := (hcell 0 (by simp)).1
        have hused := used_any p8
        have HN := hid (show Rel w (d + 1) ob (k + 1) 0 w8 from ⟨_, fp8, p8, (g7.trans (Grew.alloc w7 _) (fun _ _ f => f)).trans g8 (fun _ _ f => f), fun b hb' => Nat.le_trans (g7.trans (Grew.alloc w7 _) (fun _ _ f => f)).size (b8 b hb'), l2⟩)
        generalize B.gcd 20 (B.final 20 [us + 3]) = M at *
        clear p7 g7 b7 hw hh p8 t8 g8 b8 c8 l1 l2 hcell hcap HM HP7 HE he1 he20 hk0 hk300
        have hlt' : k < q + 1 := hlt
        by_cases h18 : d + 1 ≤ 18
        · have hu2 := l3 h18
          rw [hu2] at hused
          clear hu2 l3 hmod hlt
          have hc18 : 1 + (d : Int) ≤ 18 := by omega
          set_option maxRecDepth 2000 in go_wp2_with (go_at_call_of 27 (Value.pointer (some ⟨ob, 0, none⟩)); refine hused.mono ?_; rintro e w' ⟨rfl, rfl⟩)
          set_option maxRecDepth 2000 in go_quiet (fail)
          set_option maxRecDepth 2000 in go_wp2
          go_roundw
          case rel =>
            obtain ⟨A', f', q1, q2, q3, q4⟩ := HN.out
            exact ⟨k + 1, ob, 0, by omega, rfl, rfl, by go_num, A', f', q1.grew ((Fr.refl _ w8).drewN _), q2.drewN _, q3, q4⟩
          case measure => simp [intOf]; omega
        · have hc18 : ¬ 1 + (d : Int) ≤ 18 := by omega
          clear l3 h18
          generalize M.used = mu at *
          by_cases hgt : 2 + 6 * (1 + (d : Int)) + 6 < mu
          · set_option maxRecDepth 2000 in go_wp2_with (go_at_call_of 27 (Value.pointer (some ⟨ob, 0, none⟩)); refine hused.mono ?_; rintro e w' ⟨rfl, rfl⟩)
            set_option maxRecDepth 2000 in go_quiet (fail)
            set_option maxRecDepth 2000 in go_wp2
            go_roundw
            case rel =>
              obtain ⟨A', f', q1, q2, q3, q4⟩ := HN.out
              exact ⟨k + 1, ob, 0, by omega, rfl, rfl, by go_num, A', f', q1.grew ((Fr.refl _ w8).drewN _), q2.drewN _, q3, q4⟩
            case measure => simp [intOf]; omega
          · set_option maxRecDepth 2000 in go_wp2_with (go_at_call_of 27 (Value.pointer (some ⟨ob, 0, none⟩)); refine hused.mono ?_; rintro e w' ⟨rfl, rfl⟩)
            set_option maxRecDepth 2000 in go_quiet (fail)
            set_option maxRecDepth 2000 in go_wp2
            go_roundw
            case rel =>
              obtain ⟨A', f', q1, q2, q3, q4⟩ := HN.out
              exact ⟨k + 1, ob, 0, by omega, rfl, rfl, by go_num, A', f', q1.grew ((Fr.refl _ w8).drewN _), q2.drewN _, q3, q4⟩
            case measure => simp [intOf]; omega
      · have hne : (mm == ee - 1) = false := by simp; omega
        have HE := hid (And.intro hkk (And.intro hee (And.intro hmod hlt)))
        clear hkk hee hmm hmod hm1 hlt hul hk hu
        go_upto_region 15 with (fail)
        clear hrem hne
        obtain ⟨rfl, rfl, hmod, hlt⟩ := HE.out
        have HN := hid (leak_next HM.out (by omega) (by omega))
        clear hmod HE he1 he20 hk0
        set_option maxRecDepth 2000 in go_wp2
        go_roundw
        case rel => exact ⟨k + 1, hb, us + 3, by omega, rfl, rfl, by go_num, B, fp7, HP7.out.1, HP7.out.2.1, HP7.out.2.2, HN.out⟩
        case measure => simp [intOf]; omega
    · have hke : k = q + 1 := by omega
      subst hke
      have HB := hid (r2.below)
      clear r1 r2 r3 r4
      go_wp2
      go_ret
      exact ⟨rfl, HB.out⟩

/-! ### THE ROW's STEP: WRITTEN OUT: LEAVE IT -/
set_option maxRecDepth 100000 in
theorem lifted (os : Os) (started : os.Started) (H : Type) (enc : TypeId × Value → H) :
    ReturnsInHanded {} Try.checked os 4 .any (Rows.gcLeakSpec.pre6 enc Try.prog Try.f4 Rows.gcLeakRow.domain false) (Rows.gcLeakSpec.post enc Try.prog Try.f4 false true false false) := by
  refine returnsInHanded_of_change (C := Try.checked) own started (by kernel_rfl) Try.func4
    (ChangeSpec.witness6 (enc := enc) (C := Try.checked) false ⟨#[], #[.int .i64 0, .int .i64 0], []⟩ 8 (by kernel_rfl) (by kernel_rfl) (by kernel_rfl) (by kernel_rfl)) ?_
  intro W base args ds gs before hval0 hW hcnd _
  have hval : ∀ (j : Nat) t v, Try.f4.params[j]? = some t → args[j]? = some v → Value.okWide Try.prog W .any base t v := hval0
  have hW' := hW
  obtain ⟨p, q, hA0, hV, rfl, hfz, hnd⟩ := hW
  have hA : DataW.TrodAll enc Try.prog W 0 (fun _ => true) true Try.f4.params.toList args.toList ds p := hA0
  rw [Try.params4] at hA hval
  obtain ⟨v0, vs0, d0, ds0, p0, q0, hargs, rfl, rfl, h0, r0⟩ := trodAll_cons hA
  obtain ⟨v1, vs1, d1, ds1, p1, q1, rfl, rfl, rfl, h1, r1⟩ := trodAll_cons r0
  obtain ⟨rfl, rfl, rfl⟩ := trodAll_nil r1
  obtain rfl : args = #[v0, v1] := by cases args; simp_all
  obtain ⟨rfl, rfl⟩ := trodVars_none hV
  obtain ⟨a0, rfl, rfl, rfl, w0⟩ := open_int Try.underlying3 (hval 0 3 v0 rfl rfl) h0
  obtain ⟨a1, rfl, rfl, rfl, w1⟩ := open_int Try.underlying3 (hval 1 3 v1 rfl rfl) h1
  clear hA0 hval0
  refine (walk a0 a1 w0 w1 W).mono fun e W' ⟨he, bel⟩ => ?_
  subst he
  exact ⟨_, rfl, _, _, _, [], _, [], hW', trodAll_mk1 (shut_bool Try.underlying4 _), (trodAll_cons_mk (shut_int Try.underlying3 w0) (trodAll_cons_mk (shut_int Try.underlying3 w1) trodAll_mk0)), rfl, bel.frame _, fun h => by cases h⟩

theorem over : Rows.gcLeakRow.holds Try.pinned (OpenSpec.ofChange Rows.gcLeakSpec) :=
  OpenClaim.holds_of_wide 4 Try.f4 rfl rfl rfl rfl rfl rfl rfl ⟨rfl, rfl, rfl, rfl, rfl⟩ rfl rfl rfl rfl rfl (by kernel_rfl) Try.func4 (by kernel_rfl)
    (of_decide_eq_true (by kernel_rfl)) (by unfold Func.isWrapper; first | (rw [if_pos (by decide +kernel)]; kernel_rfl) | (rw [if_neg (by decide +kernel)]; exact ⟨rfl, rfl⟩))
    (fun os started H enc _ => lifted os started H enc)

/-- the statement -/
theorem proved : Rows.GcLeakSaid :=
  over
end Go.Proofs.Ytjhdnbediipibaa.gcLeak

namespace Go.Proofs.Ytjhdnbediipibaa
theorem gcLeak_holds : Rows.GcLeakSaid := gcLeak.proved
#print axioms gcLeak_holds
end Go.Proofs.Ytjhdnbediipibaa
