/-
  What hangs together in a ring is left, in one ring, as long, or goes all together: 'thunk/thunklaw12.GcRings' returns true, for every input.
  No condition beyond the given row's own.
-/
import Derived.Test.YtjhdnbediipibaaP7
import Derived.Test.YtjhdnbediipibaaRows
import Derived.WalkKit
import Derived.ProofKit
import Derived.OpenShut
import Derived.ShutString
import Derived.ChangeOld
import Derived.Below
namespace Go.Proofs.Ytjhdnbediipibaa.gcRings
open Go.ChangeShapes Go.WideShapes Go.ChangeAt Go.RowKit
open Go.ChangeMaps (open_string shut_string)
set_option linter.unusedVariables false      -- a walk need not use every 'w<i>' (that an integer argument fits its kind)

theorem own : ownKnob Try.prog.godebug = none := by kernel_rfl
theorem laidOut : laidOutB Try.prog = true := by kernel_rfl

/-! ### STEP 1: THE WALK: the Go text returns true. 'Grown w w'': the world has at most new blocks (Derived/RowKit3.lean). Part the cases AHEAD of 'go_enter' where a test parts the walk; take each callee by a contract of your own. -/
theorem used_is {w : World} {hb : Nat} {A : AH} {fp : List Nat} {u : Int} (h : PH w hb A fp) (hu : A.used = u) :
    Calls Try.prog 27 #[.pointer (some ⟨hb, 0, none⟩)] w fun e w' => e = .returned (Kv u) ∧ w = w' := by
  rw [← hu]; exact used_any h
theorem ptrs_is {w : World} {hb : Nat} {A : AH} {fp : List Nat} {k : Int} {l : List Int} (h : PH w hb A fp) (hn : A.ptrs k = l) (hl : l.length ≤ 17592186044416) :
    Calls Try.prog 31 #[.pointer (some ⟨hb, 0, none⟩), .int .i64 k] w (NewRow w l) := by
  subst hn; exact ptrs_any h k hl
/-- a round of the first two loops -/
def Rel (w : World) (hb k i m : Nat) (wr : World) : Prop :=
  ∃ A fp, PH wr hb A fp ∧ RingInv k i m A ∧ Grew w wr ∧ (∀ b ∈ fp, w.heap.size ≤ b)
/-- a round of the third -/
def Rel3 (w : World) (ob g m : Nat) (B : AH) (wr : World) : Prop :=
  (∃ fp, PH wr ob B fp) ∧ Grew w wr ∧ wr.cell? ⟨g, 0, none⟩ = some (Kv 0)

set_option maxHeartbeats 4000000 in
set_option maxRecDepth 100000 in
/-! ### STEP 1: THE WALK -/
theorem walk (a0 : Int) (a1 : Int) (a2 : Bool) (w0 : (Lit.int .i64 a0).wf = true) (w1 : (Lit.int .i64 a1).wf = true) (w : World) :
    Calls Try.prog 6 #[.int .i64 a0, .int .i64 a1, .bool a2] w fun e w' => e = .returned (.bool true) ∧ Below w.heap.size w w' := by
  clear w0 w1
  obtain ⟨q, hq, hq9⟩ : ∃ q : Nat, a0 % 15 = q ∧ q < 15 := ⟨(a0 % 15).toNat, by omega, by omega⟩
  have hk1 := fun w => within12_any a0 15 w (by omega) (by omega)
  rw [hq] at hk1
  have hkw := known12_any w
  clear hq
  go_enter Try.func6, Try.ntmps6
  go_wp2_with fail
  refine hkw.mono ?_
  rintro e w1 ⟨rfl, g1⟩
  have HG1 := hid g1
  clear g1
  go_wp2_with fail
  refine (new_any _ _).mono ?_
  rintro e w2 ⟨hb, fp, rfl, p2, g2, b2⟩
  have HS := hid (show Rel w hb 0 0 (q + 1) w2 from ⟨_, fp, p2, ring_zero _, HG1.out.trans g2 (fun _ _ f => f), fun b hb' => Nat.le_trans HG1.out.size (b2 b hb')⟩)
  clear p2 g2 b2 HG1 hkw
  go_wp2_with fail
  refine (hk1 _).mono ?_
  rintro e w' ⟨rfl, rfl⟩
  clear hk1
  go_wp2
  go_loopw [9] (fun i wr => ∃ k : Nat, k ≤ q + 1 ∧ i = .int .i64 k ∧ Rel w hb k 0 (q + 1) wr) (fun i _ => q + 1 - (intOf i).toNat)
  case atStart => exact ⟨0, Nat.zero_le _, rfl, HS.out⟩
  case round =>
    clear HS
    obtain ⟨k, hk, rfl, A, fpr, r1, r2, r3, r4⟩ := hrel
    by_cases hlt : k < q + 1
    · have hu := r2.used
      have HR := hid (And.intro r1 (And.intro r2 (And.intro r3 r4)))
      clear r1 r2 r3 r4
      go_wp2_with fail
      obtain ⟨r1, r2, r3, r4⟩ := HR.out
      have g0 := Grew.alloc wr (.cells #[.int .i64 (3 * (k : Int)), .int .i64 (3 * (k : Int))] 3)
      refine (alloc_yes (r1.grew g0) r2.wf 2 (Ow.two wr _ _) (Ow.nil _) (ring_ok (by omega) r2)).mono ?_
      intro e w6 hp
      obtain ⟨rfl, fp6, p6, g6, b6, f6, n6⟩ := rel_made hu (r3.trans g0 (fun _ _ f => f)) r4 hp
      have HN := hid (show Rel w hb (k + 1) 0 (q + 1) w6 from ⟨_, fp6, p6, ring_add (by omega) r2, g6, b6⟩)
      clear r1 r2 r3 r4 g0 hp p6 g6 b6 f6 n6 HR hu
      go_wp2
      go_roundw
      case rel => exact ⟨k + 1, by omega, by go_num, HN.out⟩
      case measure => simp [intOf]; omega
    · obtain ⟨m, hm⟩ : ∃ m : Nat, m = q + 1 := ⟨_, rfl⟩
      have hkm : k = m := by omega
      have hm1 : 1 ≤ m := by omega
      have hm15 : m ≤ 15 := by omega
      have hqm : 1 + (q : Int) = (m : Int) := by omega
      rw [← hm, hkm] at r2
      have HST := hid (show Rel w hb m 0 m wr from ⟨_, _, r1, r2, r3, r4⟩)
      clear r1 r2 r3 r4
      go_upto_region 13 with (fail)
      subst hkm
      rw [hqm]
      clear hqm hk hlt hm hq9
      go_wp2
      go_loopw [12] (fun i wr => ∃ j : Nat, j ≤ k ∧ i = .int .i64 j ∧ Rel w hb k j k wr) (fun i _ => k - (intOf i).toNat)
      case atStart => exact ⟨0, Nat.zero_le _, rfl, HST.out⟩
      case round =>
        clear HST
        obtain ⟨j, hj, rfl, A, fpr, r1, r2, r3, r4⟩ := hrel
        by_cases hjk : j < k
        · have HR := hid (And.intro r1 (And.intro r2 (And.intro r3 r4)))
          clear r1 r2 r3 r4
          obtain ⟨t, ht⟩ : ∃ t : Nat, t = (j + 1) % k := ⟨_, rfl⟩
          have htk : t < k := by rw [ht]; exact Nat.mod_lt _ (by omega)
          obtain ⟨jj, hjj⟩ : ∃ jj : Int, (j : Int) = jj := ⟨_, rfl⟩
          obtain ⟨kk, hkk⟩ : ∃ kk : Int, (k : Int) = kk := ⟨_, rfl⟩
          obtain ⟨tt, htt⟩ : ∃ tt : Int, (t : Int) = tt := ⟨_, rfl⟩
          have hrem : (jj + 1) % kk = tt := by rw [← hjj, ← hkk, ← htt, ht, Int.natCast_emod]; congr 1
          have b1 : 0 ≤ jj := by omega
          have b2 : jj < kk := by omega
          have b3 : 1 ≤ kk := by omega
          have b4 : kk ≤ 15 := by omega
          have b5 : 0 ≤ tt := by omega
          have b6 : tt < kk := by omega
          have HE := hid (And.intro hjj (And.intro hkk (And.intro htt (And.intro ht (And.intro hjk (And.intro hm1 hm15))))))
          rw [hjj, hkk]
          clear hjj hkk htt ht hjk hj htk hm1 hm15
          go_wp2_with fail
          clear hrem
          obtain ⟨r1, r2, r3, r4⟩ := HR.out
          refine (set_any r1 (3 * jj) 1 (3 * tt) r2.wf.shaped).mono ?_
          intro e w6 hp
          obtain ⟨rfl, rfl, rfl, ht, hjk, hm1, hm15⟩ := HE.out
          unfold SetPost at hp
          rw [ht, if_pos (ring_setok r2 hjk)] at hp
          obtain ⟨rfl, p6, g6⟩ := hp
          have HN := hid (show Rel w hb k (j + 1) k w6 from ⟨_, _, p6, ring_set r2 hjk, grew_step r3 g6 r4, r4⟩)
          clear r1 r2 r3 r4 p6 g6 ht HE HR b1 b2 b3 b4 b5 b6
          set_option maxRecDepth 2000 in go_wp2
          go_roundw
          case rel => exact ⟨j + 1, by omega, by go_num, HN.out⟩
          case measure => simp [intOf]; omega
        · have hjk' : j = k := by omega
          subst hjk'
          have HR := hid (And.intro r1 (And.intro r2 (And.intro r3 r4)))
          clear r1 r2 r3 r4 hj
          go_upto_region 17 with (fail)
          clear hjk
          obtain ⟨r1, r2, r3, r4⟩ := HR.out
          cases a2 with
          | false =>
            go_wp2_with fail
            refine (collect_ok (d := 5) r2.wf (by omega) r1 (Ow.nil _) (by simp) (by simp)).mono ?_
            rintro e w8 ⟨ob, fp8, tv, rfl, p8, t8, g8, b8, c8⟩
            have hus := used_is p8 (rings_none A 5)
            have HG := hid (r3.trans g8 (fun _ _ f => f))
            clear r1 r2 r3 r4 p8 t8 g8 b8 c8 HR
            set_option maxRecDepth 2000 in go_wp2_with (go_at_call 27; refine hus.mono ?_; rintro e w10 ⟨rfl, rfl⟩)
            go_ret
            exact ⟨rfl, HG.out.below⟩
          | true =>
            go_wp2_with fail
            obtain ⟨s, hs, hsj⟩ : ∃ s : Nat, a1 % (j : Int) = s ∧ s < j := ⟨(a1 % (j : Int)).toNat, by have := Int.emod_nonneg a1 (show (j : Int) ≠ 0 by omega); omega, by have := Int.emod_lt_of_pos a1 (show (0 : Int) < j by omega); omega⟩
            have hkj := within12_any a1 j wr (by omega) (by omega)
            rw [hs] at hkj
            refine hkj.mono ?_
            rintro e w' ⟨rfl, rfl⟩
            clear hkj hs
            go_wp2_with fail
            have g0 := Grew.alloc wr (.cells #[.int .i64 (3 * (s : Int))] 3)
            refine (collect_ok (d := 5) r2.wf (by omega) (r1.grew g0) (Ow.one wr (3 * (s : Int))) (by simp) (fun k hk => by rw [List.mem_singleton] at hk; subst hk; exact r2.has hsj)).mono ?_
            rintro e w8 ⟨ob, fp8, tv, rfl, p8, t8, g8, b8, c8⟩
            obtain ⟨l1, l2, l3⟩ := rings_law r2 hsj 5
            have hus := used_is p8 l2
            rw [l1] at t8
            obtain ⟨g, cap, rfl, hcap, _, _, hcell⟩ := t8.at (by simp)
            have hc0 : w8.cell? ⟨g, 0, none⟩ = some (Kv 0) := (hcell 0 (by simp)).1
            have HST := hid (show Rel3 w ob g j _ w8 from ⟨⟨fp8, p8⟩, (r3.trans g0 (fun _ _ f => f)).trans g8 (fun _ _ f => f), hc0⟩)
            have HL3 := hid l3
            generalize A.gcd 5 (A.final 5 [3 * (s : Int)]) = B at *
            have hcp1 : 1 ≤ cap := by simpa using hcap
            clear r1 r2 r3 r4 p8 t8 g8 b8 c8 HR l1 l2 l3 hcell hcap g0
            set_option maxRecDepth 2000 in go_wp2_with (go_at_call 27; refine hus.mono ?_; rintro e w10 ⟨rfl, rfl⟩)
            clear hus
            go_loopw [19, 20] (fun a i wr => ∃ n : Nat, n ≤ j ∧ i = .int .i64 n ∧ a = .int .i64 (3 * ((if n < j then n else 0 : Nat) : Int)) ∧ Rel3 w ob g j B wr) (fun _ i _ => j - (intOf i).toNat)
            case atStart => exact ⟨0, Nat.zero_le _, rfl, by rw [if_pos (by omega)]; rfl, HST.out⟩
            case round =>
              clear HST
              obtain ⟨n, hn, rfl, rfl, ⟨fp9, q1⟩, q2, q3⟩ := hrel
              by_cases hnj : n < j
              · rw [if_pos hnj]
                have hpt := ptrs_is q1 (HL3.out n hnj) (by simp)
                have HQ := hid (And.intro q1 (And.intro q2 q3))
                obtain ⟨m, hm⟩ : ∃ m : Nat, (if n + 1 < j then n + 1 else 0) = m := ⟨_, rfl⟩
                rw [hm] at hpt
                have HM := hid hm
                clear q1 q2 q3 hm
                set_option maxRecDepth 2000 in go_wp2_with fail
                refine hpt.mono ?_
                rintro e w9 ⟨v, rfl, h1, h2, _⟩
                obtain ⟨gp, cp, rfl, hcp, _, _, hcl⟩ := h1.at (by simp)
                have hp0 : w9.cell? ⟨gp, 0, none⟩ = some (Kv (3 * (n : Int))) := (hcl 0 (by simp)).1
                have hp1 : w9.cell? ⟨gp, 1, none⟩ = some (Kv (3 * (m : Int))) := (hcl 1 (by simp)).1
                have hr0 : w9.cell? ⟨g, 0, none⟩ = some (Kv 0) := h2.cell HQ.out.2.2 (fun f => f)
                have HN := hid (show Rel3 w ob g j B w9 from ⟨⟨fp9, HQ.out.1.grew h2⟩, HQ.out.2.1.trans h2 (fun _ _ f => f), hr0⟩)
                have hcp2 : 2 ≤ cp := by simpa using hcp
                clear hpt HQ h1 h2 hcl hcp
                by_cases hn0 : n = 0
                · subst hn0
                  set_option maxRecDepth 2000 in go_wp2
                  go_roundw
                  case rel => exact ⟨1, by omega, by go_num, by rw [← HM.out], HN.out⟩
                  case measure => simp [intOf]; omega
                · have hn1 : 1 ≤ n := by omega
                  clear hn0
                  set_option maxRecDepth 2000 in go_wp2
                  go_roundw
                  case rel => exact ⟨n + 1, by omega, by go_num, by rw [← HM.out], HN.out⟩
                  case measure => simp [intOf]; omega
              · rw [if_neg hnj]
                have HG := hid q2
                have hr0 := q3
                clear q1 q2 q3
                set_option maxRecDepth 2000 in go_wp2
                go_ret
                exact ⟨rfl, HG.out.below⟩

/-! ### THE ROW's STEP: WRITTEN OUT: LEAVE IT -/
set_option maxRecDepth 100000 in
theorem lifted (os : Os) (started : os.Started) (H : Type) (enc : TypeId × Value → H) :
    ReturnsInHanded {} Try.checked os 6 .any (Rows.gcRingsSpec.pre6 enc Try.prog Try.f6 Rows.gcRingsRow.domain false) (Rows.gcRingsSpec.post enc Try.prog Try.f6 false true false false) := by
  refine returnsInHanded_of_change (C := Try.checked) own started (by kernel_rfl) Try.func6
    (ChangeSpec.witness6 (enc := enc) (C := Try.checked) false ⟨#[], #[.int .i64 0, .int .i64 0, .bool false], []⟩ 8 (by kernel_rfl) (by kernel_rfl) (by kernel_rfl) (by kernel_rfl)) ?_
  intro W base args ds gs before hval0 hW hcnd _
  have hval : ∀ (j : Nat) t v, Try.f6.params[j]? = some t → args[j]? = some v → Value.okWide Try.prog W .any base t v := hval0
  have hW' := hW
  obtain ⟨p, q, hA0, hV, rfl, hfz, hnd⟩ := hW
  have hA : DataW.TrodAll enc Try.prog W 0 (fun _ => true) true Try.f6.params.toList args.toList ds p := hA0
  rw [Try.params6] at hA hval
  obtain ⟨v0, vs0, d0, ds0, p0, q0, hargs, rfl, rfl, h0, r0⟩ := trodAll_cons hA
  obtain ⟨v1, vs1, d1, ds1, p1, q1, rfl, rfl, rfl, h1, r1⟩ := trodAll_cons r0
  obtain ⟨v2, vs2, d2, ds2, p2, q2, rfl, rfl, rfl, h2, r2⟩ := trodAll_cons r1
  obtain ⟨rfl, rfl, rfl⟩ := trodAll_nil r2
  obtain rfl : args = #[v0, v1, v2] := by cases args; simp_all
  obtain ⟨rfl, rfl⟩ := trodVars_none hV
  obtain ⟨a0, rfl, rfl, rfl, w0⟩ := open_int Try.underlying3 (hval 0 3 v0 rfl rfl) h0
  obtain ⟨a1, rfl, rfl, rfl, w1⟩ := open_int Try.underlying3 (hval 1 3 v1 rfl rfl) h1
  obtain ⟨a2, rfl, rfl, rfl⟩ := open_bool Try.underlying4 (hval 2 4 v2 rfl rfl) h2
  clear hA0 hval0
  refine (walk a0 a1 a2 w0 w1 W).mono fun e W' ⟨he, bel⟩ => ?_
  subst he
  exact ⟨_, rfl, _, _, _, [], _, [], hW', trodAll_mk1 (shut_bool Try.underlying4 _), (trodAll_cons_mk (shut_int Try.underlying3 w0) (trodAll_cons_mk (shut_int Try.underlying3 w1) (trodAll_cons_mk (shut_bool Try.underlying4 _) trodAll_mk0))), rfl, bel.frame _, fun h => by cases h⟩

theorem over : Rows.gcRingsRow.holds Try.pinned (OpenSpec.ofChange Rows.gcRingsSpec) :=
  OpenClaim.holds_of_wide 6 Try.f6 rfl rfl rfl rfl rfl rfl rfl ⟨rfl, rfl, rfl, rfl, rfl⟩ rfl rfl rfl rfl rfl (by kernel_rfl) Try.func6 (by kernel_rfl)
    (of_decide_eq_true (by kernel_rfl)) (by unfold Func.isWrapper; first | (rw [if_pos (by decide +kernel)]; kernel_rfl) | (rw [if_neg (by decide +kernel)]; exact ⟨rfl, rfl⟩))
    (fun os started H enc _ => lifted os started H enc)

/-- the statement -/
theorem proved : Rows.GcRingsSaid :=
  over
end Go.Proofs.Ytjhdnbediipibaa.gcRings

namespace Go.Proofs.Ytjhdnbediipibaa
theorem gcRings_holds : Rows.GcRingsSaid := gcRings.proved
#print axioms gcRings_holds
end Go.Proofs.Ytjhdnbediipibaa
