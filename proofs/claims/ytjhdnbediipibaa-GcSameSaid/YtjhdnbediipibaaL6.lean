/-
  What can be reached behind a collection, without what only leads on, is what it was: tags, numbers, pointers, in step: 'thunk/thunklaw12.GcSame' returns true, for every input.
  No condition beyond the given row's own.
-/
import Derived.Test.YtjhdnbediipibaaP11
import Derived.Test.YtjhdnbediipibaaRows
import Derived.WalkKit
import Derived.ProofKit
import Derived.OpenShut
import Derived.ShutString
import Derived.ChangeOld
import Derived.Below
namespace Go.Proofs.Ytjhdnbediipibaa.gcSame
open Go.ChangeShapes Go.WideShapes Go.ChangeAt Go.RowKit
open Go.ChangeMaps (open_string shut_string)
set_option linter.unusedVariables false

theorem own : ownKnob Try.prog.godebug = none := by kernel_rfl
theorem laidOut : laidOutB Try.prog = true := by kernel_rfl

/-- WHAT THE WALK IS TOLD OF A SLICE OF INTEGERS THAT CAME IN: it is nil; or it leads to a row of 'cap' cells, the numbers 'zs' (the first 'len' are its elements, the rest its spare room), each fitting its kind. -/
def IsRow (k : IntKind) (w : World) (a : Option Addr) (len cap : Nat) (zs : List Int) : Prop :=
  (a = none ∧ len = 0 ∧ cap = 0 ∧ zs = []) ∨
  ∃ x, a = some x ∧ len ≤ cap ∧ cap ≤ maxLen ∧ zs.length = cap ∧ (∀ i, i < zs.length → w.cell? (x.add i) = some (.int k (zs.getD i 0))) ∧ ∀ n ∈ zs, (Lit.int k n).wf = true

/-! ### STEP 1: THE WALK: the Go text returns true, AND WRITES NOTHING THAT WAS THERE: 'Below w.heap.size w w'' (Derived/Below.lean: '.refl', '.alloc', '.drew', '.setCell' at a new block, '.trans'). Open each 'IsRow' by 'rcases' AHEAD of 'go_enter'; part every test ahead of the walk. -/
theorem used_is {w : World} {hb : Nat} {A : AH} {fp : List Nat} {u : Int} (h : PH w hb A fp) (hu : A.used = u) :
    Calls Try.prog 27 #[.pointer (some ⟨hb, 0, none⟩)] w fun e w' => e = .returned (Kv u) ∧ w = w' := by
  rw [← hu]; exact used_any h
theorem ptrs_is {w : World} {hb : Nat} {A : AH} {fp : List Nat} {k : Int} {l : List Int} (h : PH w hb A fp) (hn : A.ptrs k = l) (hl : l.length ≤ 17592186044416) :
    Calls Try.prog 31 #[.pointer (some ⟨hb, 0, none⟩), .int .i64 k] w (NewRow w l) := by
  subst hn; exact ptrs_any h k hl
theorem nums_is {w : World} {hb : Nat} {A : AH} {fp : List Nat} {k : Int} {l : List Int} (h : PH w hb A fp) (hn : A.nums k = l) (hl : l.length ≤ 17592186044416) :
    Calls Try.prog 29 #[.pointer (some ⟨hb, 0, none⟩), .int .i64 k] w (NewRow w l) := by
  subst hn; exact nums_any h k hl
theorem tag_is {w : World} {hb : Nat} {A : AH} {fp : List Nat} {k t : Int} (h : PH w hb A fp) (hn : A.tag k = t) :
    Calls Try.prog 26 #[.pointer (some ⟨hb, 0, none⟩), .int .i64 k] w fun e w' => e = .returned (Kv t) ∧ w = w' := by
  subst hn; exact tag_any h k
theorem follow_is {w : World} {hb : Nat} {A : AH} {fp : List Nat} {k t : Int} (h : PH w hb A fp) (hW : A.WF) (hn : A.follow k = t) :
    Calls Try.prog 34 #[.pointer (some ⟨hb, 0, none⟩), .int .i64 k] w fun e w' => e = .returned (Kv t) ∧ w = w' := by
  subst hn; exact follow_any h hW.shaped hW.fine.few k

/-! ### STEP 1: THE WALK -/
set_option maxHeartbeats 4000000 in
set_option maxRecDepth 100000 in
theorem walk (a0 : Option Addr) (len0 cap0 : Nat) (z0 : List Int) (a1 : Option Addr) (len1 cap1 : Nat) (z1 : List Int) (w : World) (w0 : IsRow .i64 w a0 len0 cap0 z0) (w1 : IsRow .i64 w a1 len1 cap1 z1) :
    Calls Try.prog 7 #[.slice a0 len0 cap0, .slice a1 len1 cap1] w fun e w' => e = .returned (.bool true) ∧ Below w.heap.size w w' := by
  have hr0 : RowIn w a0 len0 cap0 := by
    rcases w0 with ⟨_, h, _⟩ | ⟨x, h1, h2, h3, h4, h5, _⟩
    · exact ⟨by simp [h], fun i hi => by omega⟩
    · exact ⟨by omega, fun i hi => ⟨x, _, h1, h2, h5 i (by omega)⟩⟩
  have hr1 : RowIn w a1 len1 cap1 := by
    rcases w1 with ⟨_, h, _⟩ | ⟨x, h1, h2, h3, h4, h5, _⟩
    · exact ⟨by simp [h], fun i hi => by omega⟩
    · exact ⟨by omega, fun i hi => ⟨x, _, h1, h2, h5 i (by omega)⟩⟩
  have HR := hid (And.intro hr0 hr1)
  clear w0 w1 hr0 hr1
  have hkw := known12_any w
  go_enter Try.func7, Try.ntmps7
  go_wp2_with fail
  refine hkw.mono ?_
  rintro e w1 ⟨rfl, g1⟩
  have HG1 := hid g1
  clear g1 hkw
  go_wp2_with fail
  refine (both_any (HR.out.1.kept HG1.out)).mono ?_
  rintro e w2 ⟨hb, xb, rfl, A, fp, hW, hWo, hT, g2, b2⟩
  obtain ⟨f1, f2, rfl, hp, hx, hdis⟩ := hT
  have HG2 := hid (HG1.out.trans g2 (fun _ _ f => f))
  have HP := hid (And.intro hp (And.intro hx (And.intro hW (fun b (hb : b ∈ f1) => Nat.le_trans HG1.out.size (b2 b (by simp [hb]))))))
  clear hp hx hW hdis g2 b2 HG1
  go_wp2_with fail
  refine (roots_any HP.out.2.1 HP.out.2.2.1.fine.few (HR.out.2.kept HG2.out)).mono ?_
  rintro e w3 ⟨l, hl6, hlh, v, rfl, hv, g3, _⟩
  obtain ⟨va, vc, rfl, _, _⟩ := hv.shape
  have HV := hid (And.intro hlh (And.intro hv (And.intro g3 (HG2.out.trans g3 (fun _ _ f => f)))))
  clear hlh hv g3 HG2
  go_wp2_with fail
  refine (collect_ok (d := 0) HP.out.2.2.1 (by omega) (HP.out.1.grew HV.out.2.2.1) HV.out.2.1 (by omega) HV.out.1).mono ?_
  rintro e w4 ⟨ob, f4, tv, rfl, p4, t4, g4, b4, c4⟩
  obtain ⟨htl, htp⟩ := told_pairs HP.out.2.2.1 HV.out.1
  have hWB := WF_gcd HP.out.2.2.1 0 HV.out.1
  have hneg := fun x y => pair_neg (x := x) (y := y) HP.out.2.2.1 HV.out.1
  have hpos := fun x y => pair_pos (x := x) (y := y) HP.out.2.2.1 HV.out.1
  obtain ⟨ta, tc, rfl, _, _⟩ := t4.shape
  rw [htl]
  generalize A.told 0 l = T at *
  generalize A.gcd 0 (A.final 0 l) = B at *
  generalize A.final 0 l = s at *
  rw [htl] at t4 c4
  obtain ⟨ov, w5, happ1, o1, q1, fr1⟩ := app_fresh ((HV.out.2.1).kept g4 (fun _ _ f => f)) (by omega) 22
  obtain ⟨nv, w6, happ2, o2, q2, fr2⟩ := app_fresh (t4.kept q1 (fun _ _ f => f)) (by omega) 22
  obtain ⟨n, hn⟩ : ∃ n : Nat, A.used + 1 = n := ⟨(A.used + 1).toNat, by have := HP.out.2.2.1.u0; omega⟩
  have hn1 : n ≤ 1000001 := by have := HP.out.2.2.1.uw; have := HP.out.2.2.1.w0; omega
  have hmk := make_marks n (by omega)
  have g6 : Grew w4 w6 := q1.trans q2 (fun _ _ f => f)
  have g36 : Grew w3 w6 := g4.trans g6 (fun _ _ f => f)
  have hus := used_is ((HP.out.1.grew HV.out.2.2.1).grew g36) (u := (n : Int) - 1) (by omega)
  have hw6 : Grew w w6 := HV.out.2.2.2.trans g36 (fun _ _ f => f)
  have gm := Grew.alloc w6 (.cells (madeCells #[.bool false] n) 4)
  have hb1 : ∀ b ∈ f1 ++ f4, w.heap.size ≤ b ∧ b < w4.heap.size := by
    intro b hb
    rcases List.mem_append.1 hb with e | e
    · exact ⟨HP.out.2.2.2 b e, ((HP.out.1.grew HV.out.2.2.1).grew g4).lt b e⟩
    · exact ⟨Nat.le_trans HV.out.2.2.2.size (b4 b e), p4.lt b e⟩
  have hsb : w6.heap.size ∉ f1 ++ f4 := fun hm => by have := (hb1 _ hm).2; have := g6.size; omega
  have hown : ∀ g, ov.ownBlock = some g → w4.heap.size ≤ g ∧ g < w5.heap.size := fun g hg => ⟨fr1 g hg, o1.lt hg⟩
  have hown2 : ∀ g, nv.ownBlock = some g → w5.heap.size ≤ g ∧ g < w6.heap.size := fun g hg => ⟨fr2 g hg, o2.lt hg⟩
  have s45 := q1.size
  have s56 := q2.size
  have sw4 : w.heap.size ≤ w4.heap.size := Nat.le_trans HV.out.2.2.2.size g4.size
  have HS := hid (show SameRel w hb ob A B f1 f4 w6.heap.size n s 0 ov nv _ from
    ⟨l, T, (((HP.out.1.grew HV.out.2.2.1).grew g36)).grew gm, (p4.grew g6).grew gm,
      ⟨⟨(o1.kept q2 (fun _ _ f => f)).kept gm (fun _ _ f => f), fun g hg => ⟨by have := hown g hg; omega, fun hm => by
          have a1 := hown g hg
          rcases List.mem_cons.1 hm with e | e
          · omega
          · have := hb1 g e; omega⟩⟩,
        ⟨o2.kept gm (fun _ _ f => f), fun g hg => ⟨by have := hown2 g hg; omega, fun hm => by
          have a1 := hown2 g hg
          rcases List.mem_cons.1 hm with e | e
          · omega
          · have := hb1 g e; omega⟩⟩,
        ⟨Ow.nil _, fun g hg => (by cases hg)⟩, fun g hg e => by have := hown g hg; have := hown2 g e; omega, fun g hg e => (by cases e), fun g hg e => (by cases e)⟩,
      hw6.trans gm (fun _ _ f => f), Marks.new w6 n, by omega, by omega, htl, htp⟩)
  have HL := hid (And.intro HP.out.2.2.1 (And.intro hWB (And.intro hneg (And.intro hpos (And.intro hsb (And.intro (Nat.le_trans sw4 (Nat.le_trans s45 s56)) (And.intro (fun b hb => (hb1 b hb).1) hn)))))))
  have HA1 := hid happ1
  have HA2 := hid happ2
  have hll : l.length ≤ 6 := hl6
  clear happ1 happ2 o1 q1 fr1 o2 q2 fr2 g6 g36 hw6 gm hb1 hsb hown hown2 s45 s56 sw4 p4 t4 g4 b4 c4 htl htp hWB hneg hpos HV HP HR hn hl6
  go_wp2_with (first | (at_builtin; first | (refine wpList_app rfl rfl rfl rfl HA1.out ?_; clear HA1) | refine wpList_app rfl rfl rfl rfl HA2.out ?_) | (go_at_call 27; refine hus.mono ?_; rintro e w' ⟨rfl, rfl⟩))
  clear hus hmk
  obtain ⟨sb, hsb⟩ : ∃ sb, w6.heap.size = sb := ⟨_, rfl⟩
  rw [hsb] at HS HL ⊢
  go_loopw [11, 12, 14] (fun ov nv i wr => ∃ k : Nat, k ≤ 3000 ∧ i = .int .i64 k ∧ SameRel w hb ob A B f1 f4 sb n s k ov nv wr) (fun _ _ i _ => 3000 - (intOf i).toNat)
  case atStart => exact ⟨0, by omega, rfl, HS.out⟩
  case round =>
    clear HS
    obtain ⟨k, hk, rfl, hR⟩ := hrel
    obtain ⟨old, now, r1, r2, r3, r4, r5, r6, r7, r8, r9⟩ := id hR
    obtain ⟨oa, oc, rfl, hoc, _⟩ := r3.ra.ow.shape
    obtain ⟨na, nc, rfl, hnc, _⟩ := r3.rb.ow.shape
    rw [r8] at hR hnc ⊢
    have HRR := hid hR
    by_cases hk1 : k < old.length
    · by_cases hk2 : k < 3000
      · have hk3 : k < now.length := by omega
        obtain ⟨go, co, he, _, _, _, hcl⟩ := r3.ra.ow.at (by omega)
        simp only [Value.slice.injEq] at he
        obtain ⟨rfl, _, rfl⟩ := he
        obtain ⟨gn, cn, he, _, _, _, hcl2⟩ := r3.rb.ow.at (by omega)
        simp only [Value.slice.injEq] at he
        obtain ⟨rfl, _, rfl⟩ := he
        have hco := (hcl k hk1).1
        have hcn := (hcl2 k hk3).1
        have hpair : Pair A s old[k] now[k] := r9 (old[k], now[k]) (by rw [List.mem_iff_getElem]; exact ⟨k, by simp; omega, by simp⟩)
        have hkc1 : k < oc := by omega
        have hkc2 : k < nc := by omega
        have HC := hid (And.intro r1 (And.intro r2 (And.intro r3 (And.intro r4 (And.intro r5 (And.intro r6 (And.intro r8 r9)))))))
        clear hcl hcl2 r1 r2 r3 r4 r5 r6 r9 hR
        generalize old[k] = x at *
        generalize now[k] = y at *
        rw [r8] at hk3
        have HPR := hid hpair
        rcases follow_or HL.out.1 hpair.1 with hf | ⟨hf0, hfb, hfh⟩
        · have hfo := fun q => follow_is (HC.out.1.grew ((Fr.refl (fun _ => False) wr).drewN q)) HL.out.1 hf
          have hfn := fun q => follow_is (HC.out.2.1.grew ((Fr.refl (fun _ => False) wr).drewN q)) HL.out.2.1 (HL.out.2.2.1 x y hpair hf)
          clear hf hpair HL
          go_upto_region 15 with (fail)
          go_quiet (first | (go_at_call 34; exact quiet_same (hfo _)))
          go_wp2_with (go_at_call 34; refine (hfn _).mono ?_; rintro e w' ⟨rfl, rfl⟩)
          go_roundw
          case rel => exact ⟨k + 1, by omega, by go_num, (HRR.out.next rfl hk1).grew ((Fr.refl (fun _ => False) wr).drewN _)⟩
          case measure => simp [intOf]; omega
        · obtain ⟨_, htg, hnu, qs, hqs, hql, hqz⟩ := HL.out.2.2.2.1 x y hpair hf0
          obtain ⟨m, hm⟩ : ∃ m : Nat, A.follow x = m := ⟨(A.follow x).toNat, by omega⟩
          have hmn : m < n := by
            obtain ⟨o, ho, hmem⟩ := AH.has_find hfh
            have q1 : A.follow x < A.used := (HL.out.1.range _ hmem).2
            have q2 := HL.out.2.2.2.2.2.2.2
            rw [hm] at q1
            clear hqz htg hnu hqs hql
            omega
          rw [hm] at htg hnu hql hqz
          have hfo := fun q => follow_is (HC.out.1.grew ((Fr.refl (fun _ => False) wr).drewN q)) HL.out.1 hm
          have hp60 := HL.out.1.shaped.ptrs_le (m : Int)
          have hn60 := HL.out.1.shaped.nums_le (m : Int)
          obtain ⟨ps, hps⟩ : ∃ ps, A.ptrs (m : Int) = ps := ⟨_, rfl⟩
          obtain ⟨ns, hns⟩ : ∃ ns, A.nums (m : Int) = ns := ⟨_, rfl⟩
          obtain ⟨t, ht⟩ : ∃ t, A.tag (m : Int) = t := ⟨_, rfl⟩
          rw [hps] at hql hqz hp60
          rw [hns] at hnu hn60
          rw [ht] at htg
          have HF := hid (And.intro hps (And.intro hns (And.intro ht (And.intro htg (And.intro hnu (And.intro hqs (And.intro hql hqz)))))))
          clear hf0 hfb hfh hpair hm htg hnu hqs hqz hps hns ht
          go_upto_region 15 with (fail)
          go_quiet (first | (go_at_call 34; exact quiet_same (hfo _)))
          clear hfo
          go_wp2_with fail
          refine (ptrs_is (HC.out.1.grew ((Fr.refl (fun _ => False) wr).drewN _)) HF.out.1 (by omega)).mono ?_
          rintro e w7 ⟨pv, rfl, hpo, hpg, hpf⟩
          obtain ⟨pa, pc, rfl, _, _⟩ := hpo.shape
          have G7 := hid ((((Fr.refl (fun _ => False) wr).drewN _).trans hpg (fun _ _ f => f) : Grew wr w7))
          have HPO := hid (And.intro hpo (fun g hg => Nat.le_trans ((Fr.refl (fun _ => False) wr).drewN _).size (hpf g hg) : ∀ g, (Value.slice pa ps.length pc).ownBlock = some g → wr.heap.size ≤ g))
          clear hpo hpg hpf
          go_wp2_with fail
          refine (ptrs_is (HC.out.2.1.grew G7.out) HF.out.2.2.2.2.2.1 (by omega)).mono ?_
          rintro e w8 ⟨qv, rfl, hqo, hqg, hqf⟩
          obtain ⟨qa, qc, rfl, _, _⟩ := hqo.shape
          have G8 := hid ((G7.out.trans hqg (fun _ _ f => f) : Grew wr w8))
          have HQO := hid (And.intro (HPO.out.1.kept hqg (fun _ _ f => f)) (And.intro HPO.out.2 (And.intro hqo (fun g hg => Nat.le_trans G7.out.size (hqf g hg) : ∀ g, (Value.slice qa qs.length qc).ownBlock = some g → wr.heap.size ≤ g))))
          rw [hql] at HQO ⊢
          clear hqo hqg hqf HPO G7
          have htt : (t != t) = false := by simp
          go_wp2_with fail
          refine (tag_is (HC.out.1.grew G8.out) HF.out.2.2.1).mono ?_
          rintro e w' ⟨rfl, rfl⟩
          go_wp2_with fail
          refine (tag_is (HC.out.2.1.grew G8.out) HF.out.2.2.2.1).mono ?_
          rintro e w' ⟨rfl, rfl⟩
          go_wp2_with fail
          refine (nums_is (HC.out.1.grew G8.out) HF.out.2.1 (by omega)).mono ?_
          rintro e w9 ⟨v1, rfl, h1, h1g, _⟩
          obtain ⟨xa, xc, rfl, _, _⟩ := h1.shape
          have H9 := hid (And.intro h1 h1g)
          clear h1 h1g
          go_wp2_with fail
          refine (nums_is ((HC.out.2.1.grew G8.out).grew H9.out.2) HF.out.2.2.2.2.1 (by omega)).mono ?_
          rintro e w10 ⟨v2, rfl, h2, h2g, _⟩
          obtain ⟨ya, yc, rfl, _, _⟩ := h2.shape
          have hin := ints_any (H9.out.1.kept h2g (fun _ _ f => f)) h2 (by omega)
          rw [show decide (ns = ns) = true from by simp] at hin
          have G10 := hid ((H9.out.2.trans h2g (fun _ _ f => f) : Grew w8 w10))
          clear h2 h2g H9
          go_wp2_with fail
          refine hin.mono ?_
          rintro e w11 ⟨rfl, h11⟩
          have G11 := hid ((G8.out.trans (G10.out.trans h11 (fun _ _ f => f)) (fun _ _ f => f) : Grew wr w11))
          have HQ := hid (And.intro (HQO.out.1.kept (G10.out.trans h11 (fun _ _ f => f)) (fun _ _ f => f)) (And.intro HQO.out.2.1 (And.intro (HQO.out.2.2.1.kept (G10.out.trans h11 (fun _ _ f => f)) (fun _ _ f => f)) HQO.out.2.2.2)))
          clear hin h11 G10 HQO htt
          obtain ⟨b, hbc, hbf⟩ := (HC.out.2.2.2.2.1.kept G11.out (fun f => f)).at hmn
          have hms : ((ps.length : Int) != (ps.length : Int)) = false := by simp
          cases b with
          | true =>
            have HN := hid ((HRR.out.next rfl hk1).grew G11.out)
            clear HC HQ HF HRR
            go_wp2
            go_roundw
            case rel => exact ⟨k + 1, by omega, by go_num, HN.out⟩
            case measure => simp [intOf]; omega
          | false =>
            have hqf2 : ∀ g, (Value.slice qa ps.length qc).ownBlock = some g → (Value.slice (some ⟨go, 0, none⟩) old.length oc).ownBlock ≠ some g := fun g hg e => by
              have a1 := HQ.out.2.2.2 g hg
              have a2 := HC.out.2.2.1.ra.ow.lt e
              omega
            have hsbl : sb < wr.heap.size := by obtain ⟨cur, e, _⟩ := HC.out.2.2.2.2.1; exact lt_of_get e
            obtain ⟨ov', nv', w12, w13, happ, happ2, hrel2⟩ := SameRel.more (HC.out.1.grew G11.out) (HC.out.2.1.grew G11.out) (HC.out.2.2.1.grew G11.out) (HC.out.2.2.2.1.trans G11.out (fun _ _ f => f)) (HC.out.2.2.2.2.1.kept G11.out (fun f => f))
              HC.out.2.2.2.2.2.1 hk1 HC.out.2.2.2.2.2.2.1 HC.out.2.2.2.2.2.2.2 HL.out.2.2.2.2.1 HL.out.2.2.2.2.2.1 HL.out.2.2.2.2.2.2.1 hk2 m HQ.out.1 HQ.out.2.2.1 hql hp60 HF.out.2.2.2.2.2.2.2
              (fun g hg e => by have := HQ.out.2.1 g hg; omega) (fun g hg e => by have := HQ.out.2.2.2 g hg; omega) hqf2
            rw [HC.out.2.2.2.2.2.2.1] at happ2
            have HAPP := hid happ
            have HAPP2 := hid happ2
            have HN := hid hrel2
            clear happ happ2 hrel2 HC HQ HF HRR HL hqf2 hsbl
            go_wp2_with (at_builtin; first | (refine wpList_app rfl rfl rfl rfl HAPP.out ?_; clear HAPP) | refine wpList_app rfl rfl rfl rfl HAPP2.out ?_)
            go_roundw
            case rel => exact ⟨k + 1, by omega, by go_num, HN.out⟩
            case measure => simp [intOf]; omega
      · have HG := hid r4
        clear r1 r2 r3 r4 r5 r9 hR HRR HL
        go_wp2
        go_ret
        exact ⟨rfl, HG.out.below⟩
    · have HG := hid r4
      clear r1 r2 r3 r4 r5 r9 hR HRR HL
      go_wp2
      go_ret
      exact ⟨rfl, HG.out.below⟩

/-! ### THE ROW's STEP: WRITTEN OUT: LEAVE IT -/
set_option maxRecDepth 100000 in
theorem lifted (os : Os) (started : os.Started) (H : Type) (enc : TypeId × Value → H) :
    ReturnsInHanded {} Try.checked os 7 .any (Rows.gcSameSpec.pre6 enc Try.prog Try.f7 Rows.gcSameRow.domain false) (Rows.gcSameSpec.post enc Try.prog Try.f7 false true false false) := by
  refine returnsInHanded_of_change (C := Try.checked) own started (by kernel_rfl) Try.func7
    (ChangeSpec.witness6 (enc := enc) (C := Try.checked) false ⟨#[], #[.slice none 0 0, .slice none 0 0], []⟩ 8 (by kernel_rfl) (by kernel_rfl) (by kernel_rfl) (by kernel_rfl)) ?_
  intro W base args ds gs before hval0 hW hcnd _
  have hval : ∀ (j : Nat) t v, Try.f7.params[j]? = some t → args[j]? = some v → Value.okWide Try.prog W .any base t v := hval0
  have hW' := hW
  obtain ⟨p, q, hA0, hV, rfl, hfz, hnd⟩ := hW
  have hA : DataW.TrodAll enc Try.prog W 0 (fun _ => true) true Try.f7.params.toList args.toList ds p := hA0
  rw [Try.params7] at hA hval
  obtain ⟨v0, vs0, d0, ds0, p0, q0, hargs, rfl, rfl, h0, r0⟩ := trodAll_cons hA
  obtain ⟨v1, vs1, d1, ds1, p1, q1, rfl, rfl, rfl, h1, r1⟩ := trodAll_cons r0
  obtain ⟨rfl, rfl, rfl⟩ := trodAll_nil r1
  obtain rfl : args = #[v0, v1] := by cases args; simp_all
  obtain ⟨rfl, rfl⟩ := trodVars_none hV
  obtain ⟨a0, len0, cap0, rfl⟩ := okWide_slice Try.underlying22 (hval 0 22 v0 rfl rfl)
  have k0 := h0
  have lt0 : ∀ x ∈ p0, x.block < W.heap.size := by obtain ⟨m, hm⟩ := k0; exact DataW.trod_lt m _ _ _ hm
  obtain ⟨z0, w0⟩ : ∃ zs, IsRow .i64 W a0 len0 cap0 zs := by
    obtain ⟨fuel, hf⟩ := h0
    rcases open_ints Try.underlying22 Try.underlying3 (by kernel_rfl) hf with ⟨hcs, _⟩ | ⟨x, l, c, zs, hcs, _, hl, hm, hz, _, hcell, hwz⟩
    · simp [Value.cells] at hcs
      obtain ⟨rfl, rfl, rfl⟩ := hcs
      exact ⟨[], .inl ⟨rfl, rfl, rfl, rfl⟩⟩
    · simp [Value.cells] at hcs
      obtain ⟨rfl, rfl, rfl⟩ := hcs
      exact ⟨zs, .inr ⟨_, rfl, hl, hm, by simpa using hz, hcell, hwz⟩⟩
  obtain ⟨a1, len1, cap1, rfl⟩ := okWide_slice Try.underlying22 (hval 1 22 v1 rfl rfl)
  have k1 := h1
  have lt1 : ∀ x ∈ p1, x.block < W.heap.size := by obtain ⟨m, hm⟩ := k1; exact DataW.trod_lt m _ _ _ hm
  obtain ⟨z1, w1⟩ : ∃ zs, IsRow .i64 W a1 len1 cap1 zs := by
    obtain ⟨fuel, hf⟩ := h1
    rcases open_ints Try.underlying22 Try.underlying3 (by kernel_rfl) hf with ⟨hcs, _⟩ | ⟨x, l, c, zs, hcs, _, hl, hm, hz, _, hcell, hwz⟩
    · simp [Value.cells] at hcs
      obtain ⟨rfl, rfl, rfl⟩ := hcs
      exact ⟨[], .inl ⟨rfl, rfl, rfl, rfl⟩⟩
    · simp [Value.cells] at hcs
      obtain ⟨rfl, rfl, rfl⟩ := hcs
      exact ⟨zs, .inr ⟨_, rfl, hl, hm, by simpa using hz, hcell, hwz⟩⟩
  clear hA0 hval0
  refine (walk a0 len0 cap0 z0 a1 len1 cap1 z1 W w0 w1).mono fun e W' ⟨he, bel⟩ => ?_
  subst he
  exact ⟨_, rfl, _, _, _, [], _, [], hW', trodAll_mk1 (shut_bool Try.underlying4 _), (trodAll_cons_mk (Below.trod laidOut (by kernel_rfl) (of_decide_eq_true (by kernel_rfl)) k0 bel lt0) (trodAll_cons_mk (Below.trod laidOut (by kernel_rfl) (of_decide_eq_true (by kernel_rfl)) k1 bel lt1) trodAll_mk0)), rfl, bel.frame _, fun h => by cases h⟩

theorem over : Rows.gcSameRow.holds Try.pinned (OpenSpec.ofChange Rows.gcSameSpec) :=
  OpenClaim.holds_of_wide 7 Try.f7 rfl rfl rfl rfl rfl rfl rfl ⟨rfl, rfl, rfl, rfl, rfl⟩ rfl rfl rfl rfl rfl (by kernel_rfl) Try.func7 (by kernel_rfl)
    (of_decide_eq_true (by kernel_rfl)) (by unfold Func.isWrapper; first | (rw [if_pos (by decide +kernel)]; kernel_rfl) | (rw [if_neg (by decide +kernel)]; exact ⟨rfl, rfl⟩))
    (fun os started H enc _ => lifted os started H enc)

/-- the statement -/
theorem proved : Rows.GcSameSaid := over
end Go.Proofs.Ytjhdnbediipibaa.gcSame

namespace Go.Proofs.Ytjhdnbediipibaa
theorem gcSame_holds : Rows.GcSameSaid := gcSame.proved
#print axioms gcSame_holds
end Go.Proofs.Ytjhdnbediipibaa
