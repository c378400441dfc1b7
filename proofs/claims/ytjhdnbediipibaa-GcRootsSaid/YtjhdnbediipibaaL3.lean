/-
  Roots that are one, or lead to one, are one behind a collection, and stand first in the order in which they came: 'thunk/thunklaw12.GcRoots' returns true, for every input.
  No condition beyond the given row's own.
-/
import Derived.Test.YtjhdnbediipibaaC3
import Derived.Test.YtjhdnbediipibaaRows
import Derived.WalkKit
import Derived.ProofKit
import Derived.OpenShut
import Derived.ShutString
import Derived.ChangeOld
import Derived.Below
namespace Go.Proofs.Ytjhdnbediipibaa.gcRoots
open Go.ChangeShapes Go.WideShapes Go.ChangeAt Go.RowKit
open Go.ChangeMaps (open_string shut_string)
set_option linter.unusedVariables false

theorem own : ownKnob Try.prog.godebug = none := by kernel_rfl
theorem laidOut : laidOutB Try.prog = true := by kernel_rfl

/-- WHAT THE WALK IS TOLD OF A SLICE OF INTEGERS THAT CAME IN: it is nil; or it leads to a row of 'cap' cells, the numbers 'zs' (the first 'len' are its elements, the rest its spare room), each fitting its kind. -/
def IsRow (k : IntKind) (w : World) (a : Option Addr) (len cap : Nat) (zs : List Int) : Prop :=
  (a = none ∧ len = 0 ∧ cap = 0 ∧ zs = []) ∨
  ∃ x, a = some x ∧ len ≤ cap ∧ cap ≤ maxLen ∧ zs.length = cap ∧ (∀ i, i < zs.length → w.cell? (x.add i) = some (.int k (zs.getD i 0))) ∧ ∀ n ∈ zs, (Lit.int k n).wf = true

/-! ### STEP 1: THE WALK: the Go text returns true, AND WRITES NOTHING THAT WAS THERE: 'Below w.heap.size w w'' (Derived/Below.lean: '.refl', '.alloc', '.drew', '.setCell' at a new block, '.trans'). Open each 'IsRow' by 'rcases' AHEAD of 'go_enter'; part every test ahead of the walk. -/
theorem used_is {w : World} {hb : Nat} {A : AH} {fp : List Nat} {u : Nat} (h : PH w hb A fp) (hu : A.used = u) :
    Calls Try.prog 27 #[.pointer (some ⟨hb, 0, none⟩)] w fun e w' => e = .returned (Kv u) ∧ w = w' := by
  rw [← hu]; exact used_any h
theorem nums_is {w : World} {hb : Nat} {A : AH} {fp : List Nat} {k : Int} {l : List Int} (h : PH w hb A fp) (hn : A.nums k = l) (hl : l.length ≤ 17592186044416) :
    Calls Try.prog 29 #[.pointer (some ⟨hb, 0, none⟩), .int .i64 k] w (NewRow w l) := by
  subst hn; exact nums_any h k hl
/-- a round of the first loop -/
def Rel1 (w : World) (hb i : Nat) (lv : Value) (wr : World) : Prop :=
  ∃ fp, PH wr hb (pairs i) fp ∧ PairInv i (pairs i) ∧ Grew w wr ∧ (∀ b ∈ fp, w.heap.size ≤ b) ∧ Beside w.heap.size fp wr lv (evens (2 * i))
/-- what stays through the second -/
def Still (w : World) (hb n gl : Nat) (fp : List Nat) (wr : World) : Prop :=
  PH wr hb (pairs n) fp ∧ Grew w wr ∧ (∀ b ∈ fp, w.heap.size ≤ b) ∧ gl < wr.heap.size ∧ ∀ j, j < 2 * n → wr.cell? ⟨gl, j, none⟩ = some (Kv (2 * (j : Int)))
/-- a round of the second loop -/
def Rel2 (w : World) (hb n gl : Nat) (fp : List Nat) (rv wv fv : Value) (roots want first : List Int) (i : Nat) (wr : World) : Prop :=
  Still w hb n gl fp wr ∧ Tri w.heap.size (gl :: fp) wr rv wv fv roots want first ∧ Roots n (pairs n) roots want first ∧ roots.length = i ∧ want.length = i ∧ first.length ≤ i

/-- a round of the third -/
def Rel3 (w : World) (ob n : Nat) (roots : List Int) (fa : Option Addr) (fc : Nat) (first : List Int) (wr : World) : Prop :=
  ∃ fp, PH wr ob ((pairs n).gcd 1 ((pairs n).final 1 roots)) fp ∧ Grew w wr ∧ Ow wr (.slice fa first.length fc) first

theorem Still.kept {w : World} {hb n gl : Nat} {fp : List Nat} {wr wx : World} (h : Still w hb n gl fp wr) (k : Fr (fun x => w.heap.size ≤ x ∧ x ∉ gl :: fp) wr wx) : Still w hb n gl fp wx := by
  obtain ⟨h1, h2, h3, h4, h5⟩ := h
  refine ⟨h1.kept k (fun b hb' f => f.2 (by simp [hb'])), grew_step h2 k (fun i hi => hi.1), h3, Nat.lt_of_lt_of_le h4 k.size, fun j hj => k.cell (h5 j hj) (fun f => f.2 (by simp))⟩
theorem Still.grew {w : World} {hb n gl : Nat} {fp : List Nat} {wr wx : World} (h : Still w hb n gl fp wr) (k : Grew wr wx) : Still w hb n gl fp wx := h.kept k.any
theorem Still.lt {w : World} {hb n gl : Nat} {fp : List Nat} {wr : World} (h : Still w hb n gl fp wr) : ∀ x ∈ gl :: fp, x < wr.heap.size := by
  intro x hx
  rcases List.mem_cons.1 hx with rfl | hx
  · exact h.2.2.2.1
  · exact h.1.lt x hx

set_option maxHeartbeats 4000000 in
set_option maxRecDepth 100000 in
theorem walk (a0 : Int) (a1 : Option Addr) (len1 cap1 : Nat) (z1 : List Int) (w : World) (w0 : (Lit.int .i64 a0).wf = true) (w1 : IsRow .i64 w a1 len1 cap1 z1) :
    Calls Try.prog 5 #[.int .i64 a0, .slice a1 len1 cap1] w fun e w' => e = .returned (.bool true) ∧ Below w.heap.size w w' := by
  have hcell : ∀ i, i < len1 → ∃ x, a1 = some x ∧ len1 ≤ cap1 ∧ w.cell? (x.add i) = some (.int .i64 (z1.getD i 0)) := by
    intro i hi
    rcases w1 with ⟨_, h, _⟩ | ⟨x, h1, h2, h3, h4, h5, _⟩
    · omega
    · exact ⟨x, h1, h2, h5 i (by omega)⟩
  have hln : len1 ≤ maxLen := by
    rcases w1 with ⟨_, h, _⟩ | ⟨x, h1, h2, h3, h4, h5, _⟩ <;> omega
  have HC := hid hcell
  clear hcell w0 w1
  obtain ⟨q, hq, hq9⟩ : ∃ q : Nat, a0 % 10 = q ∧ q < 10 := ⟨(a0 % 10).toNat, by omega, by omega⟩
  have hk1 := fun w => within12_any a0 10 w (by omega) (by omega)
  rw [hq] at hk1
  have hkw := known12_any w
  clear hq
  unfold maxLen at hln
  go_enter Try.func5, Try.ntmps5
  go_wp2_with fail
  refine hkw.mono ?_
  rintro e w1 ⟨rfl, g1⟩
  have HG1 := hid g1
  clear g1
  go_wp2_with fail
  refine (new_any _ _).mono ?_
  rintro e w2 ⟨hb, fp, rfl, p2, g2, b2⟩
  have HS := hid (show Rel1 w hb 0 (.slice none 0 0) w2 from ⟨fp, p2, pairs_zero, HG1.out.trans g2 (fun _ _ f => f), fun b hb' => Nat.le_trans HG1.out.size (b2 b hb'), Ow.nil w2, fun g hg => (by cases hg)⟩)
  clear p2 g2 b2 HG1 hkw
  go_wp2_with fail
  refine (hk1 _).mono ?_
  rintro e w' ⟨rfl, rfl⟩
  clear hk1
  go_wp2
  go_loopw [7, 8] (fun lv i wr => ∃ k : Nat, k ≤ q + 1 ∧ i = .int .i64 k ∧ Rel1 w hb k lv wr) (fun _ i _ => q + 1 - (intOf i).toNat)
  case atStart => exact ⟨0, Nat.zero_le _, rfl, HS.out⟩
  case round =>
    clear HS
    obtain ⟨k, hk, rfl, fpr, r1, r2, r3, r4, r5⟩ := hrel
    by_cases hlt : k < q + 1
    · have ok1 := pairs_ok1 (by omega) r2
      have ok2 := pairs_ok2 (by omega) r2
      have hu1 := pairs_u1 r2
      have hu := r2.used
      have wf1 := r2.wf
      have wf2 := WF_add wf1 ok1
      have hnx : PairInv (k + 1) (((pairs k).add 1 [] [(k : Int)]).add 5 [4 * (k : Int)] []) := pairs_step (by omega) r2
      have hev := evens_step k
      have hel := evens_len (2 * k)
      have hN := fun wx fpx lx h1 h2 h3 h4 => (show Rel1 w hb (k + 1) lx wx from ⟨fpx, h1, hnx, h2, h3, h4⟩)
      have HN := hid hN
      have H := hid (And.intro ok1 (And.intro ok2 (And.intro wf1 (And.intro wf2 (And.intro hu (And.intro hu1 (And.intro hev hel)))))))
      have HR := hid (And.intro r1 (And.intro r3 (And.intro r4 r5)))
      clear ok1 ok2 hu1 hu wf1 wf2 hnx hev hel hN r1 r2 r3 r4 r5
      go_wp2_with fail
      obtain ⟨r1, r3, r4, r5⟩ := HR.out
      have g0 := Grew.alloc wr (.cells #[.int .i64 (k : Int)] 3)
      refine (alloc_yes (r1.grew g0) H.out.2.2.1 1 (Ow.nil _) (Ow.one wr k) H.out.1).mono ?_
      intro e w6 hp
      obtain ⟨rfl, fp6, p6, g6, b6, f6, n6⟩ := rel_made H.out.2.2.2.2.1 (r3.trans g0 (fun _ _ f => f)) r4 hp
      have HR6 := hid (And.intro p6 (And.intro g6 (And.intro b6 ((r5.grew g0).made f6 n6))))
      clear r1 r3 r4 r5 g0 hp p6 g6 b6 f6 n6 HR
      go_wp2_with fail
      obtain ⟨r1, r3, r4, r5⟩ := HR6.out
      have g0 := Grew.alloc w6 (.cells #[.int .i64 (4 * (k : Int))] 3)
      refine (alloc_yes (r1.grew g0) H.out.2.2.2.1 5 (Ow.one w6 (4 * (k : Int))) (Ow.nil _) H.out.2.1).mono ?_
      intro e w7 hp
      obtain ⟨rfl, fp7, p7, g7, b7, f7, n7⟩ := rel_made H.out.2.2.2.2.2.1 (r3.trans g0 (fun _ _ f => f)) r4 hp
      have p8 := p7.grew (Grew.alloc w7 (.cells #[.int .i64 (4 * (k : Int)), .int .i64 (4 * (k : Int) + 2)] 3))
      have g8 := g7.trans (Grew.alloc w7 (.cells #[.int .i64 (4 * (k : Int)), .int .i64 (4 * (k : Int) + 2)] 3)) (fun _ _ f => f)
      have r8 := ((r5.grew g0).made f7 n7).grew (Grew.alloc w7 (.cells #[.int .i64 (4 * (k : Int)), .int .i64 (4 * (k : Int) + 2)] 3))
      obtain ⟨v', w', happ, r9, f9, _⟩ := r8.app (g8.size) p8.lt (Ow.two w7 (4 * (k : Int)) (4 * (k : Int) + 2)) (by rw [H.out.2.2.2.2.2.2.2]; simp; omega) 22
      rw [H.out.2.2.2.2.2.2.1] at r9
      have HREL := hid (HN.out w' fp7 v' (p8.kept f9 (fun b hb' e => (r8.own b e).2 hb')) (grew_step g8 f9 (fun i hi => (r8.own i hi).1)) b7 r9)
      have HAPP := hid happ
      clear r1 r3 r4 r5 g0 hp p7 g7 b7 f7 n7 p8 g8 r8 r9 f9 happ HR6 H HN
      go_wp2_with (at_builtin; refine wpList_app rfl rfl rfl rfl HAPP.out ?_)
      go_roundw
      case rel => exact ⟨k + 1, by omega, by go_num, HREL.out⟩
      case measure => simp [intOf]; omega
    · obtain ⟨n, hn⟩ : ∃ n : Nat, n = k := ⟨k, rfl⟩
      subst hn
      have hn1 : 1 ≤ n := by omega
      have hn10 : n ≤ 10 := by omega
      clear hk
      obtain ⟨gl, cap, rfl, hcap, hmx, hglt, hcell⟩ := r5.ow.at (by rw [evens_len]; omega)
      have hst : Still w hb n gl fpr wr := ⟨r1, r3, r4, hglt, fun j hj => by rw [(hcell j (by rw [evens_len]; exact hj)).1, evens_at]⟩
      have hgl := r5.own gl rfl
      have HST := hid (And.intro hst (And.intro hgl r2))
      have hel := evens_len (2 * n)
      obtain ⟨L, hL⟩ : ∃ L : Nat, 2 * n = L := ⟨_, rfl⟩
      rw [hL] at hel
      rw [hL, hel]
      have HL := hid hL
      have hL1 : 1 ≤ L := by omega
      have hL2 : L ≤ 20 := by omega
      rw [hL, hel] at hcap
      clear hst hgl hel r1 r2 r3 r4 r5 hglt hcell hmx hL
      go_wp2
      clear hlt
      go_loopw [13, 14, 15, 16] (fun rv wv fv i wr => ∃ (k : Nat) (roots want first : List Int), k ≤ 20 ∧ k ≤ len1 ∧ i = .int .i64 k ∧ Rel2 w hb n gl fpr rv wv fv roots want first k wr) (fun _ _ _ i _ => 20 - (intOf i).toNat)
      case atStart => exact ⟨0, [], [], [], by omega, Nat.zero_le _, rfl, HST.out.1, Tri.nil _ _ _, Roots.nil _ _, rfl, rfl, Nat.le_refl _⟩
      case round =>
        obtain ⟨hglB, hpi⟩ := HST.out.2
        have HB := hid (And.intro hglB hpi)
        clear HST hglB hpi
        obtain ⟨k, roots, want, first, hk, hkl, rfl, st, t, ro, l1, l2, l3⟩ := hrel
        obtain ⟨fa, fc, rfl, _, _⟩ := t.rc.ow.shape
        by_cases hlt : k < len1 ∧ k < 20
        · obtain ⟨hlt1, hlt2⟩ := hlt
          obtain ⟨x, rfl, hcp, hc⟩ := HC.out k hlt1
          replace hc := st.2.1.cell hc (fun f => f)
          generalize z1.getD k 0 = zz at *
          obtain ⟨j, hj, hjL⟩ : ∃ j : Nat, zz % (L : Int) = j ∧ j < L := ⟨(zz % (L : Int)).toNat, by have := Int.emod_nonneg zz (show (L : Int) ≠ 0 by omega); omega, by have := Int.emod_lt_of_pos zz (show (0 : Int) < L by omega); omega⟩
          have hkj := fun w => within12_any zz L w (by omega) (by omega)
          rw [hj] at hkj
          have hcj := st.2.2.2.2 j (by have := HL.out; omega)
          have hal : wr.heap.size ≤ (wr.alloc (.cells #[.int .i64 (2 * (j : Int))] 3)).heap.size := (Grew.alloc wr _).size
          obtain ⟨rv', wA, happ, tA, fA⟩ := (t.grew (Grew.alloc wr (.cells #[.int .i64 (2 * (j : Int))] 3))).app (by have := st.2.1.size; omega) (st.grew (Grew.alloc wr (.cells #[.int .i64 (2 * (j : Int))] 3))).lt (Ow.one wr (2 * (j : Int))) (by simp; omega) 22
          have stA := (st.grew (Grew.alloc wr (.cells #[.int .i64 (2 * (j : Int))] 3))).kept fA
          have HAPP := hid happ
          have HA := hid (And.intro stA (And.intro tA (And.intro ro (And.intro l1 (And.intro l2 l3)))))
          have hfcell : ∀ i (h : i < first.length), ∃ g, fa = some ⟨g, 0, none⟩ ∧ wA.cell? ⟨g, i, none⟩ = some (Kv first[i]) := by
            intro i hi
            obtain ⟨g, c, he, _, _, _, hcell⟩ := tA.rc.ow.at (by omega)
            cases he
            exact ⟨g, rfl, (hcell i hi).1⟩
          have HF := hid hfcell
          clear hfcell happ tA fA stA st t ro l1 l2 hal hj
          go_wp2_with fail
          refine (hkj _).mono ?_
          rintro e w' ⟨rfl, rfl⟩
          clear hkj
          go_wp2_with (at_builtin; refine wpList_app rfl rfl rfl rfl HAPP.out ?_)
          obtain ⟨jh, hjh⟩ : ∃ jh : Nat, j / 2 = jh := ⟨_, rfl⟩
          have hjd : (j : Int) / 2 = (jh : Int) := by omega
          have hjb : jh ≤ 20 := by omega
          have hfl : first.length ≤ 20 := by have := HA.out.2.2.2.2.2; omega
          have HJ := hid hjh
          have HJL := hid (show j < 2 * n by have := HL.out; omega)
          clear hjh hjL HAPP hc hcj HL
          go_loopw [18] (fun v wx => ∃ i : Nat, v = .int .i64 i ∧ i ≤ first.length ∧ (∀ m (h : m < first.length), m < i → first[m] ≠ (jh : Int)) ∧ wx = wA) (fun v _ => first.length - (intOf v).toNat)
          case atStart => exact ⟨0, rfl, Nat.zero_le _, fun m _ h => by omega, rfl⟩
          case round =>
            obtain ⟨i, rfl, hi, hne, hwx⟩ := hrel
            replace hwx := hwx.symm
            subst hwx
            have HNE := hid hne
            clear hne
            by_cases hil : i < first.length
            · obtain ⟨g, rfl, hcf⟩ := HF.out i hil
              by_cases hf : first[i] = (jh : Int)
              · rw [hf] at hcf
                have hbf : ((jh : Int) != (jh : Int)) = false := by simp
                have hbl : ((i : Int) == (first.length : Int)) = false := by simp; omega
                have HEQ := hid hf
                clear hf
                go_upto_region 26 with (fail)
                obtain ⟨st, t, ro, l1, l2, l3⟩ := HA.out
                obtain ⟨wv', wB, happ, tB, fB⟩ := (t.rot.grew (Grew.alloc wA (.cells #[.int .i64 (2 * (i : Int))] 3))).app (by have := st.2.1.size; have := (Grew.alloc wA (.cells #[.int .i64 (2 * (i : Int))] 3)).size; omega) (st.grew (Grew.alloc wA (.cells #[.int .i64 (2 * (i : Int))] 3))).lt (Ow.one wA (2 * (i : Int))) (by simp; omega) 22
                have ro' := ro.step HB.out.2 HJL.out hi (by rw [HJ.out]; exact HNE.out) (by rw [HJ.out]; intro _; exact HEQ.out)
                rw [if_neg (by omega)] at ro'
                have HREL := hid (show Rel2 w hb n gl fpr rv' wv' _ _ _ _ (k + 1) wB from ⟨(st.grew (Grew.alloc wA (.cells #[.int .i64 (2 * (i : Int))] 3))).kept fB, tB.rot.rot, ro', by simp; omega, by simp; omega, by omega⟩)
                have HAPP := hid happ
                have hi20 : i ≤ 20 := by omega
                clear happ tB fB st t ro l1 l2 l3 ro' hbl hbf hil hcf HNE HEQ HF hi
                set_option maxRecDepth 2000 in go_wp2_with (at_builtin; refine wpList_app rfl rfl rfl rfl HAPP.out ?_)
                go_roundw
                case rel => exact ⟨k + 1, _, _, _, by omega, by omega, by go_num, HREL.out⟩
                case measure => simp [intOf]; omega
              · have hbf : (first[i] != (jh : Int)) = true := by simpa using hf
                have HEQ := hid hf
                clear hf
                generalize hfi : first[i] = f at hcf hbf HEQ
                have HFI := hid hfi
                clear hfi
                set_option maxRecDepth 2000 in go_wp2
                go_roundw
                case rel =>
                  refine ⟨i + 1, by go_num, by omega, fun m hm hmi => ?_, by first | rfl | trivial⟩
                  by_cases e : m = i
                  · subst e; rw [HFI.out]; exact HEQ.out
                  · exact HNE.out m hm (by omega)
                case measure => simp [intOf]; omega
            · have hie : i = first.length := by omega
              subst hie
              clear hil
              have hbl : ((first.length : Int) == (first.length : Int)) = true := by simp
              obtain ⟨st, t, ro, l1, l2, l3⟩ := HA.out
              obtain ⟨fv', wB, happ, tB, fB⟩ := (t.rot.rot.grew (Grew.alloc wA (.cells #[.int .i64 (jh : Int)] 3))).app (by have := st.2.1.size; have := (Grew.alloc wA (.cells #[.int .i64 (jh : Int)] 3)).size; omega) (st.grew (Grew.alloc wA (.cells #[.int .i64 (jh : Int)] 3))).lt (Ow.one wA (jh : Int)) (by simp; omega) 22
              have stB := (st.grew (Grew.alloc wA (.cells #[.int .i64 (jh : Int)] 3))).kept fB
              have g9 := Grew.alloc wB (.cells #[.int .i64 (2 * (first.length : Int))] 3)
              obtain ⟨wv', wC, happ2, tC, fC⟩ := (tB.rot.rot.grew g9).app (by have := stB.2.1.size; have := g9.size; omega) (stB.grew g9).lt (Ow.one wB (2 * (first.length : Int))) (by simp; omega) 22
              have ro' := ro.step HB.out.2 HJL.out hi (by rw [HJ.out]; exact HNE.out) (fun h => absurd h (by omega))
              rw [if_pos rfl, HJ.out] at ro'
              have HREL := hid (show Rel2 w hb n gl fpr rv' wv' fv' _ _ _ (k + 1) wC from ⟨(stB.grew g9).kept fC, tC.rot.rot, ro', by simp; omega, by simp; omega, by simp; omega⟩)
              have HAPP := hid happ
              have HAPP2 := hid happ2
              clear happ tB fB st t ro l1 l2 l3 ro' HNE HF hi happ2 tC fC stB g9
              set_option maxRecDepth 2000 in go_wp2_with (at_builtin; first | refine wpList_app rfl rfl rfl rfl HAPP.out ?_ | refine wpList_app rfl rfl rfl rfl HAPP2.out ?_)
              go_roundw
              case rel => exact ⟨k + 1, _, _, _, by omega, by omega, by go_num, HREL.out⟩
              case measure => simp [intOf]; omega
        · have hpi := HB.out.2
          obtain ⟨w1, w2, w3⟩ := roots_law hpi ro
          have HW := hid (And.intro w1 (And.intro w2 w3))
          have HS := hid (And.intro st (And.intro t (And.intro hpi.wf ro.has)))
          have hrl : roots.length ≤ 20 ∧ want.length ≤ 20 := by omega
          have hfl : first.length ≤ 20 := by omega
          clear w1 w2 w3 st t ro hpi l1 l2 l3
          have hor : ¬ k < len1 ∨ (k < len1 ∧ ¬ k < 20) := by by_cases h : k < len1 <;> simp_all
          rcases hor with hlt1 | ⟨hlt1, hlt2⟩
          all_goals clear hlt
          all_goals go_wp2_with fail
          all_goals obtain ⟨st, t, wf, has⟩ := HS.out
          all_goals refine (collect_ok (d := 1) wf (by omega) st.1 t.ra.ow (by omega) has).mono ?_
          all_goals rintro e w8 ⟨ob, fp8, tv, rfl, p8, t8, g8, b8, c8⟩
          all_goals rw [HW.out.1] at t8
          all_goals have hused := used_any p8
          all_goals rw [HW.out.2.1] at hused
          all_goals have t9 := t.grew g8
          all_goals have hin := ints_any t8 t9.rb.ow (by omega)
          all_goals rw [show decide (want = want) = true from by simp] at hin
          all_goals obtain ⟨ta, tc, rfl, _, _⟩ := t8.shape
          all_goals obtain ⟨wa, wc, rfl, _, _⟩ := t9.rb.ow.shape
          all_goals have HP8 := hid p8
          all_goals have HG8 := hid (And.intro st.2.1 (And.intro g8 t9))
          all_goals clear p8 t8 g8 b8 c8 st t wf has t9 HB HC HL
          all_goals set_option maxRecDepth 2000 in go_wp2_with fail
          all_goals refine hin.mono ?_
          all_goals rintro e w9 ⟨rfl, g9⟩
          all_goals have hus := used_is (HP8.out.grew g9) HW.out.2.1
          all_goals rw [show ((2 * first.length : Nat) : Int) = 2 * (first.length : Int) from by omega] at hus
          all_goals have HST := hid (show Rel3 w ob n roots fa fc first w9 from ⟨fp8, HP8.out.grew g9, HG8.out.1.trans (HG8.out.2.1.trans g9 (fun _ _ f => f)) (fun _ _ f => f), HG8.out.2.2.rc.ow.kept g9 (fun _ _ f => f)⟩)
          all_goals clear g9 hin HP8 HG8 hused
          all_goals set_option maxRecDepth 2000 in go_wp2_with fail
          all_goals refine hus.mono ?_
          all_goals rintro e w10 ⟨rfl, rfl⟩
          all_goals clear hus
          all_goals have hne : (2 * (first.length : Int) != 2 * (first.length : Int)) = false := by simp
          all_goals have hfl0 : (0 : Int) ≤ (first.length : Int) := by omega
          all_goals set_option maxRecDepth 2000 in go_wp2
          all_goals clear hne
          all_goals go_loopw [22] (fun i wr => ∃ k : Nat, k ≤ first.length ∧ i = .int .i64 k ∧ Rel3 w ob n roots fa fc first wr) (fun i _ => first.length - (intOf i).toNat)
          all_goals first | (case atStart => exact ⟨0, Nat.zero_le _, rfl, HST.out⟩) | skip
          all_goals (
            case round =>
              obtain ⟨m, hm, rfl, fp9, r1, r2, r3⟩ := hrel
              by_cases hml : m < first.length
              · obtain ⟨gf, c9, he, hcp, _, _, hcell⟩ := r3.at (by omega)
                cases he
                have hc := (hcell m hml).1
                have hnu := HW.out.2.2 m hml
                generalize first[m] = f at hc hnu
                have HNU := hid hnu
                have HR := hid (And.intro r1 (And.intro r2 r3))
                have hm20 : m ≤ 20 := by omega
                clear hnu r1 r2 r3 hcell HST
                have hw1 : IntKind.i64.wrap (2 * (m : Int)) = 2 * m := IntWalk.i64_in _ (by omega)
                go_upto_region 33 with (fail)
                refine wp_region_facts 11 Grew [(143, Ex (.pointer (some ⟨ob, 0, none⟩))), (144, Ex (Kv (m : Int))), (145, Ex (Kv (2 * (m : Int)))), (146, FOw [f]), (147, Ex (.slice (some ⟨gf, 0, none⟩) first.length fc)), (148, Ex (Kv (m : Int))), (149, Ex (.pointer (some ⟨gf, m, none⟩))), (150, Ex (Kv f)), (151, FOw [f]), (152, Ex (.bool true)), (153, Ex (.bool false))] (by kernel_rfl) (by kernel_rfl) (by rfl) (by rfl)
                  (fun a => Fr.refl _ a) (fun a b c h k => h.trans k (fun _ _ f => f)) (Fr.refl _ _).drew
                  (Stays.all ⟨Ex.stays _, Ex.stays _, Ex.stays _, FOw.stays _, Ex.stays _, Ex.stays _, Ex.stays _, Ex.stays _, FOw.stays _, Ex.stays _, Ex.stays _, trivial⟩) ?_ ?_
                · go_light
                  refine OpGoals.cons ?_ (OpGoals.cons ?_ (OpGoals.cons ?_ (OpGoals.cons ?_ (OpGoals.cons ?_ (OpGoals.cons ?_ (OpGoals.cons ?_ (OpGoals.cons ?_ (OpGoals.cons ?_ (OpGoals.cons ?_ (OpGoals.cons ?_ OpGoals.none))))))))))
                  all_goals (intro a' w' hS hR; simp [Rd, Op.operands, Call.operands, Fk, Ex] at hR)
                  all_goals (show Yields _ _ _ _ _)
                  all_goals (have hc0 := hS.cell hc (fun f => f))
                  all_goals try (simp [Yields, execOp, Act.eval, hR, hc0, hw1, go_sem, Fk, Ex, Fr.refl]; done)
                  · simp [Yields, execOp, Act.eval, hR, go_sem, Fk, Ex]
                    refine (nums_is (HR.out.1.grew hS) HNU.out (by simp)).mono ?_
                    rintro e w2 ⟨v, rfl, h1, h2, _⟩
                    obtain ⟨x, c, rfl, _⟩ := h1.shape
                    exact ⟨_, rfl, ⟨⟨x, c, rfl⟩, h1⟩, h2⟩
                  · have hmc : m < fc := by omega
                    simp [Yields, execOp, Act.eval, hR, hml, hmc, go_sem, Fk, Ex, Fr.refl]
                  · simp [Yields, execOp, Act.eval, hR, go_sem, Fk]
                    exact ⟨⟨⟨_, _, rfl⟩, Ow.one w' f⟩, Grew.alloc _ _⟩
                  · obtain ⟨⟨⟨x1, c1, e1⟩, o1⟩, ⟨⟨x2, c2, e2⟩, o2⟩⟩ := hR
                    rw [e1] at o1
                    rw [e2] at o2
                    have hin := ints_any o1 o2 (by simp)
                    rw [show decide ([f] = [f]) = true from by simp] at hin
                    simp [Yields, execOp, Act.eval, e1, e2, go_sem, Fk, Ex]
                    refine hin.mono ?_
                    rintro e w2 ⟨rfl, h2⟩
                    exact ⟨_, rfl, rfl, h2⟩
                · intro w6 hS
                  rintro _ rfl _ rfl _ rfl v146 _ _ rfl _ rfl _ rfl _ rfl v151 _ _ rfl _ rfl
                  refine Then.nil ?_
                  have HST := hid (show Rel3 w ob n roots (some ⟨gf, 0, none⟩) fc first w6 from ⟨fp9, HR.out.1.grew hS, HR.out.2.1.trans hS (fun _ _ f => f), HR.out.2.2.kept hS (fun _ _ f => f)⟩)
                  clear hS hc hw1 HR HNU
                  set_option maxRecDepth 2000 in go_wp2
                  go_roundw
                  case rel => exact ⟨m + 1, by omega, by go_num, HST.out⟩
                  case measure => simp [intOf]; omega
              · have HG := hid r2
                clear r1 r2 r3 HST
                set_option maxRecDepth 2000 in go_wp2
                go_ret
                exact ⟨rfl, HG.out.below⟩)

/-! ### THE ROW's STEP: WRITTEN OUT: LEAVE IT -/
set_option maxRecDepth 100000 in
theorem lifted (os : Os) (started : os.Started) (H : Type) (enc : TypeId × Value → H) :
    ReturnsInHanded {} Try.checked os 5 .any (Rows.gcRootsSpec.pre6 enc Try.prog Try.f5 Rows.gcRootsRow.domain false) (Rows.gcRootsSpec.post enc Try.prog Try.f5 false true false false) := by
  refine returnsInHanded_of_change (C := Try.checked) own started (by kernel_rfl) Try.func5
    (ChangeSpec.witness6 (enc := enc) (C := Try.checked) false ⟨#[], #[.int .i64 0, .slice none 0 0], []⟩ 8 (by kernel_rfl) (by kernel_rfl) (by kernel_rfl) (by kernel_rfl)) ?_
  intro W base args ds gs before hval0 hW hcnd _
  have hval : ∀ (j : Nat) t v, Try.f5.params[j]? = some t → args[j]? = some v → Value.okWide Try.prog W .any base t v := hval0
  have hW' := hW
  obtain ⟨p, q, hA0, hV, rfl, hfz, hnd⟩ := hW
  have hA : DataW.TrodAll enc Try.prog W 0 (fun _ => true) true Try.f5.params.toList args.toList ds p := hA0
  rw [Try.params5] at hA hval
  obtain ⟨v0, vs0, d0, ds0, p0, q0, hargs, rfl, rfl, h0, r0⟩ := trodAll_cons hA
  obtain ⟨v1, vs1, d1, ds1, p1, q1, rfl, rfl, rfl, h1, r1⟩ := trodAll_cons r0
  obtain ⟨rfl, rfl, rfl⟩ := trodAll_nil r1
  obtain rfl : args = #[v0, v1] := by cases args; simp_all
  obtain ⟨rfl, rfl⟩ := trodVars_none hV
  obtain ⟨a0, rfl, rfl, rfl, w0⟩ := open_int Try.underlying3 (hval 0 3 v0 rfl rfl) h0
  obtain ⟨a1, len1, cap1, rfl⟩ := okWide_slice Try.underlying22 (hval 1 22 v1 rfl rfl)
  have k1 := h1
  have lt1 : ∀ x ∈ p1, x.block < W.heap.size := by obtain ⟨m, hm⟩ := k1; exact DataW.trod_lt m _ _ _ hm
  obtain ⟨z1, w1⟩ : ∃ zs, IsRow .i64 W a1 len1 cap1 zs := by
    obtain ⟨fuel, hf⟩ := h1
    rcases open_ints Try.underlying22 Try.underlying3 (by kernel_rfl) hf with ⟨hcs, _⟩ | ⟨x, l, c, zs, hcs, _, hl, hm, hz, _, hcell, hwz⟩
    · simp [Value.cells] at hcs
      obtain ⟨rfl, rfl, rfl⟩ := hcs
      exact ⟨[], .inl ⟨rfl, rfl, rfl, rfl⟩⟩
    · simp [Value.cells] at hcs
      obtain ⟨rfl, rfl, rfl⟩ := hcs
      exact ⟨zs, .inr ⟨_, rfl, hl, hm, by simpa using hz, hcell, hwz⟩⟩
  clear hA0 hval0
  refine (walk a0 a1 len1 cap1 z1 W w0 w1).mono fun e W' ⟨he, bel⟩ => ?_
  subst he
  exact ⟨_, rfl, _, _, _, [], _, [], hW', trodAll_mk1 (shut_bool Try.underlying4 _), (trodAll_cons_mk (shut_int Try.underlying3 w0) (trodAll_cons_mk (Below.trod laidOut (by kernel_rfl) (of_decide_eq_true (by kernel_rfl)) k1 bel lt1) trodAll_mk0)), rfl, bel.frame _, fun h => by cases h⟩

theorem over : Rows.gcRootsRow.holds Try.pinned (OpenSpec.ofChange Rows.gcRootsSpec) :=
  OpenClaim.holds_of_wide 5 Try.f5 rfl rfl rfl rfl rfl rfl rfl ⟨rfl, rfl, rfl, rfl, rfl⟩ rfl rfl rfl rfl rfl (by kernel_rfl) Try.func5 (by kernel_rfl)
    (of_decide_eq_true (by kernel_rfl)) (by unfold Func.isWrapper; first | (rw [if_pos (by decide +kernel)]; kernel_rfl) | (rw [if_neg (by decide +kernel)]; exact ⟨rfl, rfl⟩))
    (fun os started H enc _ => lifted os started H enc)

/-- the statement -/
theorem proved : Rows.GcRootsSaid := over
end Go.Proofs.Ytjhdnbediipibaa.gcRoots

namespace Go.Proofs.Ytjhdnbediipibaa
theorem gcRoots_holds : Rows.GcRootsSaid := gcRoots.proved
#print axioms gcRoots_holds
end Go.Proofs.Ytjhdnbediipibaa
