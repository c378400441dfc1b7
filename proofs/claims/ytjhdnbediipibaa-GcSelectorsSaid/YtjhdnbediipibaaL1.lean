/-
  A selector of a pair that is there is its part, by as many of them in a row as the depth allows; of what is no pair it stays: 'thunk/thunklaw12.GcSelectors' returns true, for every input.
  No condition beyond the given row's own.
-/
import Derived.Test.YtjhdnbediipibaaP4
import Derived.Test.YtjhdnbediipibaaRows
import Derived.WalkKit
import Derived.ProofKit
import Derived.OpenShut
import Derived.ShutString
import Derived.ChangeOld
import Derived.Below
namespace Go.Proofs.Ytjhdnbediipibaa.gcSelectors
open Go.ChangeShapes Go.WideShapes Go.ChangeAt Go.RowKit
open Go.ChangeMaps (open_string shut_string)
set_option linter.unusedVariables false

theorem own : ownKnob Try.prog.godebug = none := by kernel_rfl
theorem laidOut : laidOutB Try.prog = true := by kernel_rfl

/-- WHAT THE WALK IS TOLD OF A SLICE OF INTEGERS THAT CAME IN: it is nil; or it leads to a row of 'cap' cells, the numbers 'zs' (the first 'len' are its elements, the rest its spare room), each fitting its kind. -/
def IsRow (k : IntKind) (w : World) (a : Option Addr) (len cap : Nat) (zs : List Int) : Prop :=
  (a = none ∧ len = 0 ∧ cap = 0 ∧ zs = []) ∨
  ∃ x, a = some x ∧ len ≤ cap ∧ cap ≤ maxLen ∧ zs.length = cap ∧ (∀ i, i < zs.length → w.cell? (x.add i) = some (.int k (zs.getD i 0))) ∧ ∀ n ∈ zs, (Lit.int k n).wf = true

/-! ### STEP 1: THE WALK: the Go text returns true, AND WRITES NOTHING THAT WAS THERE: 'Below w.heap.size w w'' (Derived/Below.lean: '.refl', '.alloc', '.drew', '.setCell' at a new block, '.trans'). Open each 'IsRow' by 'rcases' AHEAD of 'go_enter'; part every test ahead of the walk. -/
/-- the chosen parts, as 0 or 1 -/
def wsOf (len : Nat) (z : List Int) (i : Nat) : Int := if i < len then z.getD i 0 % 2 else 0
theorem ws01 (len : Nat) (z : List Int) (i : Nat) : wsOf len z i = 0 ∨ wsOf len z i = 1 := by
  unfold wsOf
  split
  · have := Int.emod_nonneg (z.getD i 0) (by omega : (2 : Int) ≠ 0)
    have := Int.emod_lt_of_pos (z.getD i 0) (by omega : (0 : Int) < 2)
    omega
  · exact .inl rfl

theorem Ow.two (w : World) (y z : Int) : Ow (w.alloc (.cells #[.int .i64 y, .int .i64 z] 3)) (.slice (some ⟨w.heap.size, 0, none⟩) 2 2) [y, z] :=
  ⟨by simp, .inr ⟨w.heap.size, 2, #[.int .i64 y, .int .i64 z], rfl, Nat.zero_le _, heap_alloc_new w _, Nat.le_refl _, by simp [maxLen], by simp, by simp⟩⟩

/-- what an Alloc of the round leaves -/
theorem rel_made {w wr w1 : World} {hb : Nat} {A : AH} {fpr : List Nat} {t : Int} {p n : List Int} {e : Ending} (r2 : Grew w wr) (r3 : ∀ b ∈ fpr, w.heap.size ≤ b) (h : MadePost wr hb A fpr t p n e w1) :
    e = .returned (.tuple #[Kv A.used, .bool true]) ∧ ∃ fp', PH w1 hb (A.add t p n) fp' ∧ Grew w w1 ∧ ∀ b ∈ fp', w.heap.size ≤ b := by
  obtain ⟨rfl, fp', p1, p2, p3⟩ := h
  refine ⟨rfl, fp', p1, grew_step r2 p2 r3, fun b hb' => ?_⟩
  have := r2.size
  rcases p3 b hb' with h | h
  · exact r3 b h
  · omega

/-- a round of the law -/
def Rel (w : World) (pair : Bool) (ws : Nat → Int) (hb : Nat) (i : Nat) (wr : World) : Prop :=
  ∃ fpr, PH wr hb (chain pair ws i) fpr ∧ Grew w wr ∧ (∀ b ∈ fpr, w.heap.size ≤ b) ∧ ChInv pair ws i (chain pair ws i)

set_option maxHeartbeats 4000000 in
set_option maxRecDepth 100000 in
theorem walk (a0 : Int) (a1 : Int) (a2 : Bool) (a3 : Option Addr) (len3 cap3 : Nat) (z3 : List Int) (w : World) (w0 : (Lit.int .i64 a0).wf = true) (w1 : (Lit.int .i64 a1).wf = true) (w3 : IsRow .i64 w a3 len3 cap3 z3) :
    Calls Try.prog 3 #[.int .i64 a0, .int .i64 a1, .bool a2, .slice a3 len3 cap3] w fun e w' => e = .returned (.bool true) ∧ Below w.heap.size w w' := by
  have hcell : ∀ i, i < len3 → ∃ x, a3 = some x ∧ len3 ≤ cap3 ∧ w.cell? (x.add i) = some (.int .i64 (z3.getD i 0)) := by
    intro i hi
    rcases w3 with ⟨_, h, _⟩ | ⟨x, h1, h2, h3, h4, h5, _⟩
    · omega
    · exact ⟨x, h1, h2, h5 i (by omega)⟩
  have HC := hid hcell
  clear hcell w0 w1 w3
  obtain ⟨q, hq, hq9⟩ : ∃ q : Nat, a0 % 9 = q ∧ q < 9 := ⟨(a0 % 9).toNat, by omega, by omega⟩
  obtain ⟨d, hd, hd12⟩ : ∃ d : Nat, a1 % 12 = d ∧ d < 12 := ⟨(a1 % 12).toNat, by omega, by omega⟩
  have hk1 := fun w => within12_any a0 9 w (by omega) (by omega)
  have hk2 := fun w => within12_any a1 12 w (by omega) (by omega)
  rw [hq] at hk1
  rw [hd] at hk2
  have hkw := known12_any w
  clear hq hd
  go_enter Try.func3, Try.ntmps3
  go_wp2_with fail
  refine hkw.mono ?_
  rintro e w1 ⟨rfl, g1⟩
  have HG1 := hid g1
  clear g1
  go_wp2_with fail
  refine (new_any _ _).mono ?_
  rintro e w2 ⟨hb, fp, rfl, p2, g2, b2⟩
  have HP2 := hid (And.intro p2 (And.intro g2 b2))
  clear p2 g2 b2
  go_wp2_with fail
  refine (hk1 _).mono ?_
  rintro e w' ⟨rfl, rfl⟩
  go_wp2_with fail
  refine (hk2 _).mono ?_
  rintro e w' ⟨rfl, rfl⟩
  go_wp2_with fail
  obtain ⟨p2, g2, b2⟩ := HP2.out
  refine (alloc_yes (p2.grew (Grew.alloc w2 (.cells #[.int .i64 77] 3))) (WF_new 200 (by omega) (by omega)) 1 (Ow.nil _) (Ow.one w2 77) (by decide)).mono ?_
  rintro e w3 ⟨rfl, fp3, p3, g3, b3⟩
  have hstart : Rel w a2 (wsOf len3 z3) hb 0 w3 := by
    have f1 := (HG1.out.trans g2 (fun _ _ f => f)).trans (Grew.alloc w2 (.cells #[.int .i64 77] 3)) (fun _ _ f => f)
    have z1 := HG1.out.size
    have z2 := f1.size
    refine ⟨fp3, p3, grew_step f1 g3 (fun i hi => by have := b2 i hi; omega), fun b hb' => ?_, ch_zero a2 _⟩
    rcases b3 b hb' with h | h
    · have := b2 b h; omega
    · omega
  have HS := hid hstart
  clear p2 g2 b2 p3 g3 b3 hstart HP2 HG1 hkw
  go_wp2
  go_loopw [14, 15] (fun v i wr => ∃ k : Nat, k ≤ q + 1 ∧ i = .int .i64 k ∧ v = .int .i64 (chAt k) ∧ Rel w a2 (wsOf len3 z3) hb k wr) (fun _ i _ => q + 1 - (intOf i).toNat)
  case atStart => exact ⟨0, Nat.zero_le _, rfl, rfl, HS.out⟩
  case round =>
    obtain ⟨k, hk, rfl, rfl, fpr, r1, r2, r3, r4⟩ := hrel
    by_cases hlt : k < q + 1
    · have ok1 := ch_ok1 (by omega) r4
      have ok2 := ch_ok2 (by omega) (ws01 len3 z3 k) r4
      have wf2 := WF_add r4.wf ok1
      have hnx := ch_step (by omega) (ws01 len3 z3 k) r4
      have HN := hid (show ∀ wx fpx, PH wx hb (((chain a2 (wsOf len3 z3) k).add (chTag a2) (chPtrs a2 (chAt k)) (chNums a2)).add 6 [(chain a2 (wsOf len3 z3) k).used] [wsOf len3 z3 k]) fpx → Grew w wx → (∀ b ∈ fpx, w.heap.size ≤ b) → Rel w a2 (wsOf len3 z3) hb (k + 1) wx from
        fun wx fpx h1 h2 h3 => ⟨fpx, h1, h2, h3, hnx⟩)
      have hat : ((chain a2 (wsOf len3 z3) k).add (chTag a2) (chPtrs a2 (chAt k)) (chNums a2)).used = chAt (k + 1) := by
        show (chain a2 (wsOf len3 z3) k).used + osz _ _ = _
        rw [ch_osz, r4.used]
        show _ = 6 * (k : Int) + 5
        omega
      have hwf := r4.wf
      have H := hid (And.intro ok1 (And.intro ok2 (And.intro wf2 (And.intro hat hwf))))
      have HR := hid (And.intro r1 (And.intro r2 r3))
      clear ok1 ok2 wf2 hnx hat hwf r1 r2 r3 r4
      generalize hA : chain a2 (wsOf len3 z3) k = A at *
      have HA := hid hA
      clear hA
      generalize hat' : chAt k = at' at *
      have HAT := hid hat'
      clear hat'
      cases a2 with
      | true =>
        go_wp2_with fail
        obtain ⟨r1, r2, r3⟩ := HR.out
        refine (alloc_yes (r1.grew (Grew.alloc wr (.cells #[.int .i64 at', .int .i64 at'] 3))) H.out.2.2.2.2 2 (Ow.two wr at' at') (Ow.nil _) H.out.1).mono ?_
        intro e w4 hp
        obtain ⟨rfl, fp4, p4, g4, b4⟩ := rel_made (r2.trans (Grew.alloc wr _) (fun _ _ f => f)) r3 hp
        have HP4 := hid (And.intro p4 (And.intro g4 b4))
        clear r1 r2 r3 p4 g4 b4 hp
        by_cases hkl : k < len3
        · obtain ⟨x, rfl, hcap, hc⟩ := HC.out k hkl
          replace hc := HP4.out.2.1.cell hc (fun f => f)
          have hzk : wsOf len3 z3 k = z3.getD k 0 % 2 := by simp only [wsOf, hkl, if_true]
          rw [hzk] at H HN
          generalize z3.getD k 0 = zz at *
          clear hzk
          go_wp2_with fail
          refine (within12_any zz 2 _ (by omega) (by omega)).mono ?_
          rintro e w' ⟨rfl, rfl⟩
          generalize zz % 2 = zw at *
          go_wp2_with fail
          obtain ⟨p4, g4, b4⟩ := HP4.out
          have ho1 := (Ow.one w4 A.used).kept (Grew.alloc _ (.cells #[.int .i64 zw] 3)) (fun _ _ f => f)
          have ho2 := Ow.one (w4.alloc (.cells #[.int .i64 A.used] 3)) zw
          have hg3 : Grew w4 ((w4.alloc (.cells #[.int .i64 A.used] 3)).alloc (.cells #[.int .i64 zw] 3)) := ((Fr.refl _ w4).alloc _).alloc _
          simp only [World.size_alloc] at ho1 ho2
          refine (alloc_yes (p4.grew hg3) H.out.2.2.1 6 ho1 ho2 H.out.2.1).mono ?_
          intro e w5 hp
          obtain ⟨rfl, fp5, p5, g5, b5⟩ := rel_made (g4.trans hg3 (fun _ _ f => f)) b4 hp
          have hat2 : (A.add 2 [at', at'] []).used = chAt (k + 1) := H.out.2.2.2.1
          rw [hat2]
          clear hat2
          have HREL := hid (HN.out w5 fp5 p5 g5 b5)
          clear p4 g4 b4 p5 g5 b5 ho1 ho2 hg3 hp
          go_wp2_with fail
          go_roundw
          case rel => exact ⟨k + 1, by omega, by go_num, rfl, HREL.out⟩
          case measure => simp [intOf]; omega
        · have hzk : wsOf len3 z3 k = 0 := by simp only [wsOf, hkl, if_false]
          rw [hzk] at H HN
          clear hzk
          go_wp2_with fail
          obtain ⟨p4, g4, b4⟩ := HP4.out
          have ho1 := (Ow.one w4 A.used).kept (Grew.alloc _ (.cells #[.int .i64 0] 3)) (fun _ _ f => f)
          have ho2 := Ow.one (w4.alloc (.cells #[.int .i64 A.used] 3)) 0
          have hg3 : Grew w4 ((w4.alloc (.cells #[.int .i64 A.used] 3)).alloc (.cells #[.int .i64 0] 3)) := ((Fr.refl _ w4).alloc _).alloc _
          simp only [World.size_alloc] at ho1 ho2
          refine (alloc_yes (p4.grew hg3) H.out.2.2.1 6 ho1 ho2 H.out.2.1).mono ?_
          intro e w5 hp
          obtain ⟨rfl, fp5, p5, g5, b5⟩ := rel_made (g4.trans hg3 (fun _ _ f => f)) b4 hp
          have hat2 : (A.add 2 [at', at'] []).used = chAt (k + 1) := H.out.2.2.2.1
          rw [hat2]
          clear hat2
          have HREL := hid (HN.out w5 fp5 p5 g5 b5)
          clear p4 g4 b4 p5 g5 b5 ho1 ho2 hg3 hp
          go_wp2_with fail
          go_roundw
          case rel => exact ⟨k + 1, by omega, by go_num, rfl, HREL.out⟩
          case measure => simp [intOf]; omega
      | false =>
        go_wp2_with fail
        obtain ⟨r1, r2, r3⟩ := HR.out
        have ho1 := (Ow.one (wr.alloc (.cells #[.int .i64 at', .int .i64 at'] 3)) at').kept (Grew.alloc _ (.cells #[.int .i64 3] 3)) (fun _ _ f => f)
        have ho2 := Ow.one ((wr.alloc (.cells #[.int .i64 at', .int .i64 at'] 3)).alloc (.cells #[.int .i64 at'] 3)) 3
        have hg3 : Grew wr (((wr.alloc (.cells #[.int .i64 at', .int .i64 at'] 3)).alloc (.cells #[.int .i64 at'] 3)).alloc (.cells #[.int .i64 3] 3)) := (((Fr.refl _ wr).alloc _).alloc _).alloc _
        simp only [World.size_alloc] at ho1 ho2
        refine (alloc_yes (r1.grew hg3) H.out.2.2.2.2 4 ho1 ho2 H.out.1).mono ?_
        intro e w4 hp
        obtain ⟨rfl, fp4, p4, g4, b4⟩ := rel_made (r2.trans hg3 (fun _ _ f => f)) r3 hp
        have HP4 := hid (And.intro p4 (And.intro g4 b4))
        clear r1 r2 r3 p4 g4 b4 hp ho1 ho2 hg3
        by_cases hkl : k < len3
        · obtain ⟨x, rfl, hcap, hc⟩ := HC.out k hkl
          replace hc := HP4.out.2.1.cell hc (fun f => f)
          have hzk : wsOf len3 z3 k = z3.getD k 0 % 2 := by simp only [wsOf, hkl, if_true]
          rw [hzk] at H HN
          generalize z3.getD k 0 = zz at *
          clear hzk
          go_wp2_with fail
          refine (within12_any zz 2 _ (by omega) (by omega)).mono ?_
          rintro e w' ⟨rfl, rfl⟩
          generalize zz % 2 = zw at *
          go_wp2_with fail
          obtain ⟨p4, g4, b4⟩ := HP4.out
          have ho1 := (Ow.one w4 A.used).kept (Grew.alloc _ (.cells #[.int .i64 zw] 3)) (fun _ _ f => f)
          have ho2 := Ow.one (w4.alloc (.cells #[.int .i64 A.used] 3)) zw
          have hg3 : Grew w4 ((w4.alloc (.cells #[.int .i64 A.used] 3)).alloc (.cells #[.int .i64 zw] 3)) := ((Fr.refl _ w4).alloc _).alloc _
          simp only [World.size_alloc] at ho1 ho2
          refine (alloc_yes (p4.grew hg3) H.out.2.2.1 6 ho1 ho2 H.out.2.1).mono ?_
          intro e w5 hp
          obtain ⟨rfl, fp5, p5, g5, b5⟩ := rel_made (g4.trans hg3 (fun _ _ f => f)) b4 hp
          have hat2 : (A.add 4 [at'] [3]).used = chAt (k + 1) := H.out.2.2.2.1
          rw [hat2]
          clear hat2
          have HREL := hid (HN.out w5 fp5 p5 g5 b5)
          clear p4 g4 b4 p5 g5 b5 ho1 ho2 hg3 hp
          go_wp2_with fail
          go_roundw
          case rel => exact ⟨k + 1, by omega, by go_num, rfl, HREL.out⟩
          case measure => simp [intOf]; omega
        · have hzk : wsOf len3 z3 k = 0 := by simp only [wsOf, hkl, if_false]
          rw [hzk] at H HN
          clear hzk
          go_wp2_with fail
          obtain ⟨p4, g4, b4⟩ := HP4.out
          have ho1 := (Ow.one w4 A.used).kept (Grew.alloc _ (.cells #[.int .i64 0] 3)) (fun _ _ f => f)
          have ho2 := Ow.one (w4.alloc (.cells #[.int .i64 A.used] 3)) 0
          have hg3 : Grew w4 ((w4.alloc (.cells #[.int .i64 A.used] 3)).alloc (.cells #[.int .i64 0] 3)) := ((Fr.refl _ w4).alloc _).alloc _
          simp only [World.size_alloc] at ho1 ho2
          refine (alloc_yes (p4.grew hg3) H.out.2.2.1 6 ho1 ho2 H.out.2.1).mono ?_
          intro e w5 hp
          obtain ⟨rfl, fp5, p5, g5, b5⟩ := rel_made (g4.trans hg3 (fun _ _ f => f)) b4 hp
          have hat2 : (A.add 4 [at'] [3]).used = chAt (k + 1) := H.out.2.2.2.1
          rw [hat2]
          clear hat2
          have HREL := hid (HN.out w5 fp5 p5 g5 b5)
          clear p4 g4 b4 p5 g5 b5 ho1 ho2 hg3 hp
          go_wp2_with fail
          go_roundw
          case rel => exact ⟨k + 1, by omega, by go_num, rfl, HREL.out⟩
          case measure => simp [intOf]; omega
    · have hke : k = q + 1 := by omega
      subst hke
      have hlaw := selectors_law r4 (fun j _ => ws01 len3 z3 j) (by omega) d
      have hwf := r4.wf
      generalize hA : chain a2 (wsOf len3 z3) (q + 1) = A at *
      obtain ⟨l1, l2, l3, l4, l5⟩ := hlaw
      generalize hat : chAt (q + 1) = at' at *
      have H := hid (And.intro l1 (And.intro l2 (And.intro l3 (And.intro l4 l5))))
      have HW := hid hwf
      have HR := hid (And.intro r1 (And.intro r2 r3))
      clear l1 l2 l3 l4 l5 hwf r1 r2 r3 r4 hA hat hlt
      go_wp2_with fail
      obtain ⟨r1, r2, r3⟩ := HR.out
      refine (collect_ok HW.out (by omega) (r1.grew (Grew.alloc wr (.cells #[.int .i64 at'] 3))) (Ow.one wr at') (by simp) (by intro k hk; rw [List.mem_singleton] at hk; subst hk; exact H.out.1)).mono ?_
      rintro e w5 ⟨ob, fp5, tv, rfl, p5, t5, g5, b5, c5⟩
      rw [H.out.2.1] at t5
      obtain ⟨g, cap, rfl, hcap, _, _, hcell⟩ := t5.at (by simp)
      have hc0 : w5.cell? ⟨g, 0, none⟩ = some (Kv 0) := (hcell 0 (by simp)).1
      have htag := tag_any p5 0
      have hused := used_any p5
      have hused2 := used_any ((r1.grew (Grew.alloc wr (.cells #[.int .i64 at'] 3))).grew g5)
      have HG := hid (((r2.trans (Grew.alloc wr (.cells #[.int .i64 at'] 3)) (fun _ _ f => f)).trans g5 (fun _ _ f => f) : Grew w w5))
      have HP5 := hid (And.intro p5 (r1.grew (Grew.alloc wr (.cells #[.int .i64 at'] 3)) |>.grew g5))
      clear r1 r2 r3 p5 t5 g5 b5 c5 hcell hcap
      generalize A.gcd d (A.final d [at']) = M at *
      have hfin : ∀ w', Grew w5 w' → Below w.heap.size w w' := fun w' hg => (HG.out.trans hg (fun _ _ f => f)).below
      have HF := hid hfin
      clear hfin
      cases a2 with
      | false =>
        have h6 := H.out.2.2.1 (.inl rfl)
        rw [h6] at htag
        clear h6
        go_wp2_with (go_at_call 26; refine htag.mono ?_; rintro e w' ⟨rfl, rfl⟩)
        go_ret
        exact ⟨rfl, HF.out _ (Fr.refl _ _)⟩
      | true =>
        by_cases hd0 : d = 0
        · subst hd0
          have h6 := H.out.2.2.1 (.inr rfl)
          rw [h6] at htag
          clear h6
          go_wp2_with (go_at_call 26; refine htag.mono ?_; rintro e w' ⟨rfl, rfl⟩)
          go_ret
          exact ⟨rfl, HF.out _ (Fr.refl _ _)⟩
        · have hdb : ((d : Int) == 0) = false := by simpa using hd0
          by_cases hdk : q + 1 ≤ d
          · obtain ⟨h6, h7⟩ := H.out.2.2.2.1 rfl hdk
            rw [h6] at htag
            rw [h7] at hused
            have hge : 1 + (q : Int) ≤ d := by omega
            clear h6 h7
            go_wp2_with (first | (go_at_call 26; refine htag.mono ?_; rintro e w' ⟨rfl, rfl⟩) | (go_at_call_of 27 (Value.pointer (some ⟨ob, 0, none⟩)); refine hused.mono ?_; rintro e w' ⟨rfl, rfl⟩))
            go_ret
            exact ⟨rfl, HF.out _ (Fr.refl _ _)⟩
          · obtain ⟨h6, h7⟩ := H.out.2.2.2.2 rfl (by omega)
            have hge : (d : Int) < 1 + q := by omega
            have HM := hid (And.intro h6 h7)
            clear h6 h7 htag hused hused2
            go_wp2
            refine wp_region_facts 18 Grew [(132, Ex (.pointer (some ⟨ob, 0, none⟩))), (133, Ex (.slice (some ⟨g, 0, none⟩) 1 cap)), (134, Ex (.pointer (some ⟨g, 0, none⟩))), (135, Ex (Kv 0)), (136, Ex (Kv 6)), (137, Ex (.bool true)), (138, Ex (.bool true)), (139, Ex (.pointer (some ⟨ob, 0, none⟩))), (140, Ex (.pointer (some ⟨ob, 0, none⟩))), (141, Ex (.pointer (some ⟨ob, 0, none⟩))), (142, Ex (Kv M.used)), (143, Ex (.pointer (some ⟨hb, 0, none⟩))), (144, Ex (.pointer (some ⟨hb, 0, none⟩))), (145, Ex (.pointer (some ⟨hb, 0, none⟩))), (146, Ex (Kv A.used)), (147, Ex (.bool true)), (148, Ex (.bool true)), (8, Ex (.bool true))] (by kernel_rfl) (by kernel_rfl) (by rfl) (by rfl)
              (fun a => Fr.refl _ a) (fun a b c h k => h.trans k (fun _ _ f => f)) (Fr.refl _ _).drew
              (Stays.all ⟨Ex.stays _, Ex.stays _, Ex.stays _, Ex.stays _, Ex.stays _, Ex.stays _, Ex.stays _, Ex.stays _, Ex.stays _, Ex.stays _, Ex.stays _, Ex.stays _, Ex.stays _, Ex.stays _, Ex.stays _, Ex.stays _, Ex.stays _, Ex.stays _, trivial⟩) ?_ ?_
            · go_light
              refine OpGoals.cons ?_ (OpGoals.cons ?_ (OpGoals.cons ?_ (OpGoals.cons ?_ (OpGoals.cons ?_ (OpGoals.cons ?_ (OpGoals.cons ?_ (OpGoals.cons ?_ (OpGoals.cons ?_ (OpGoals.cons ?_ (OpGoals.cons ?_ (OpGoals.cons ?_ (OpGoals.cons ?_ (OpGoals.cons ?_ (OpGoals.cons ?_ (OpGoals.cons ?_ (OpGoals.cons ?_ (OpGoals.cons ?_ OpGoals.none)))))))))))))))))
              all_goals (intro a' w' hS hR; simp [Rd, Op.operands, Call.operands, Fk, Ex] at hR)
              all_goals (first | show Yields _ _ _ _ _ | (show _ → _; intro hg; simp [Fk, Ex] at hg; refine ⟨fun _ => ?_, fun hne => absurd hg (by simpa using hne)⟩))
              all_goals (have hc := hS.cell hc0 (fun f => f))
              all_goals try (simp [Yields, execOp, Act.eval, hR, hc, go_sem, Fk, Ex, Fr.refl]; done)
              · simp [Yields, execOp, Act.eval, hR, go_sem, Fk, Ex]
                refine (tag_any (HP5.out.1.grew hS) 0).mono ?_
                rintro e w2 ⟨rfl, rfl⟩
                exact ⟨_, rfl, by rw [HM.out.1], Fr.refl _ _⟩
              · simp [Yields, execOp, Act.eval, hR, go_sem, Fk, Ex]
                refine (used_any (HP5.out.1.grew hS)).mono ?_
                rintro e w2 ⟨rfl, rfl⟩
                exact ⟨_, rfl, rfl, Fr.refl _ _⟩
              · simp [Yields, execOp, Act.eval, hR, go_sem, Fk, Ex]
                refine (used_any (HP5.out.2.grew hS)).mono ?_
                rintro e w2 ⟨rfl, rfl⟩
                exact ⟨_, rfl, rfl, Fr.refl _ _⟩
              · have := HM.out.2
                simp [Yields, execOp, Act.eval, hR, go_sem, Fk, Ex, Fr.refl]
                exact this
            · intro w6 hS
              rintro _ rfl _ rfl _ rfl _ rfl _ rfl _ rfl _ rfl _ rfl _ rfl _ rfl _ rfl _ rfl _ rfl _ rfl _ rfl _ rfl _ rfl _ rfl
              refine Then.nil ?_
              have HB := hid (HF.out w6 hS)
              clear hS
              go_wp2
              go_ret
              exact ⟨rfl, HB.out⟩

/-! ### THE ROW's STEP: WRITTEN OUT: LEAVE IT -/
set_option maxRecDepth 100000 in
theorem lifted (os : Os) (started : os.Started) (H : Type) (enc : TypeId × Value → H) :
    ReturnsInHanded {} Try.checked os 3 .any (Rows.gcSelectorsSpec.pre6 enc Try.prog Try.f3 Rows.gcSelectorsRow.domain false) (Rows.gcSelectorsSpec.post enc Try.prog Try.f3 false true false false) := by
  refine returnsInHanded_of_change (C := Try.checked) own started (by kernel_rfl) Try.func3
    (ChangeSpec.witness6 (enc := enc) (C := Try.checked) false ⟨#[], #[.int .i64 0, .int .i64 0, .bool false, .slice none 0 0], []⟩ 8 (by kernel_rfl) (by kernel_rfl) (by kernel_rfl) (by kernel_rfl)) ?_
  intro W base args ds gs before hval0 hW hcnd _
  have hval : ∀ (j : Nat) t v, Try.f3.params[j]? = some t → args[j]? = some v → Value.okWide Try.prog W .any base t v := hval0
  have hW' := hW
  obtain ⟨p, q, hA0, hV, rfl, hfz, hnd⟩ := hW
  have hA : DataW.TrodAll enc Try.prog W 0 (fun _ => true) true Try.f3.params.toList args.toList ds p := hA0
  rw [Try.params3] at hA hval
  obtain ⟨v0, vs0, d0, ds0, p0, q0, hargs, rfl, rfl, h0, r0⟩ := trodAll_cons hA
  obtain ⟨v1, vs1, d1, ds1, p1, q1, rfl, rfl, rfl, h1, r1⟩ := trodAll_cons r0
  obtain ⟨v2, vs2, d2, ds2, p2, q2, rfl, rfl, rfl, h2, r2⟩ := trodAll_cons r1
  obtain ⟨v3, vs3, d3, ds3, p3, q3, rfl, rfl, rfl, h3, r3⟩ := trodAll_cons r2
  obtain ⟨rfl, rfl, rfl⟩ := trodAll_nil r3
  obtain rfl : args = #[v0, v1, v2, v3] := by cases args; simp_all
  obtain ⟨rfl, rfl⟩ := trodVars_none hV
  obtain ⟨a0, rfl, rfl, rfl, w0⟩ := open_int Try.underlying3 (hval 0 3 v0 rfl rfl) h0
  obtain ⟨a1, rfl, rfl, rfl, w1⟩ := open_int Try.underlying3 (hval 1 3 v1 rfl rfl) h1
  obtain ⟨a2, rfl, rfl, rfl⟩ := open_bool Try.underlying4 (hval 2 4 v2 rfl rfl) h2
  obtain ⟨a3, len3, cap3, rfl⟩ := okWide_slice Try.underlying22 (hval 3 22 v3 rfl rfl)
  have k3 := h3
  have lt3 : ∀ x ∈ p3, x.block < W.heap.size := by obtain ⟨m, hm⟩ := k3; exact DataW.trod_lt m _ _ _ hm
  obtain ⟨z3, w3⟩ : ∃ zs, IsRow .i64 W a3 len3 cap3 zs := by
    obtain ⟨fuel, hf⟩ := h3
    rcases open_ints Try.underlying22 Try.underlying3 (by kernel_rfl) hf with ⟨hcs, _⟩ | ⟨x, l, c, zs, hcs, _, hl, hm, hz, _, hcell, hwz⟩
    · simp [Value.cells] at hcs
      obtain ⟨rfl, rfl, rfl⟩ := hcs
      exact ⟨[], .inl ⟨rfl, rfl, rfl, rfl⟩⟩
    · simp [Value.cells] at hcs
      obtain ⟨rfl, rfl, rfl⟩ := hcs
      exact ⟨zs, .inr ⟨_, rfl, hl, hm, by simpa using hz, hcell, hwz⟩⟩
  clear hA0 hval0
  refine (walk a0 a1 a2 a3 len3 cap3 z3 W w0 w1 w3).mono fun e W' ⟨he, bel⟩ => ?_
  subst he
  exact ⟨_, rfl, _, _, _, [], _, [], hW', trodAll_mk1 (shut_bool Try.underlying4 _), (trodAll_cons_mk (shut_int Try.underlying3 w0) (trodAll_cons_mk (shut_int Try.underlying3 w1) (trodAll_cons_mk (shut_bool Try.underlying4 _) (trodAll_cons_mk (Below.trod laidOut (by kernel_rfl) (of_decide_eq_true (by kernel_rfl)) k3 bel lt3) trodAll_mk0)))), rfl, bel.frame _, fun h => by cases h⟩

theorem over : Rows.gcSelectorsRow.holds Try.pinned (OpenSpec.ofChange Rows.gcSelectorsSpec) :=
  OpenClaim.holds_of_wide 3 Try.f3 rfl rfl rfl rfl rfl rfl rfl ⟨rfl, rfl, rfl, rfl, rfl⟩ rfl rfl rfl rfl rfl (by kernel_rfl) Try.func3 (by kernel_rfl)
    (of_decide_eq_true (by kernel_rfl)) (by unfold Func.isWrapper; first | (rw [if_pos (by decide +kernel)]; kernel_rfl) | (rw [if_neg (by decide +kernel)]; exact ⟨rfl, rfl⟩))
    (fun os started H enc _ => lifted os started H enc)

/-- the statement -/
theorem proved : Rows.GcSelectorsSaid := over
end Go.Proofs.Ytjhdnbediipibaa.gcSelectors

namespace Go.Proofs.Ytjhdnbediipibaa
theorem gcSelectors_holds : Rows.GcSelectorsSaid := gcSelectors.proved
#print axioms gcSelectors_holds
end Go.Proofs.Ytjhdnbediipibaa
