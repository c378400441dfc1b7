/-
  What is left is just what can be reached from the roots, and nothing but rings only leads on: 'thunk/thunklaw12.GcReach' returns true, for every input.
  No condition beyond the given row's own.
-/
import Derived.Test.YtjhdnbediipibaaP13
import Derived.Test.YtjhdnbediipibaaRows
import Derived.WalkKit
import Derived.ProofKit
import Derived.OpenShut
import Derived.ShutString
import Derived.ChangeOld
import Derived.Below
namespace Go.Proofs.Ytjhdnbediipibaa.gcReach
open Go.ChangeShapes Go.WideShapes Go.ChangeAt Go.RowKit
open Go.ChangeMaps (open_string shut_string)
set_option linter.unusedVariables false

theorem own : ownKnob Try.prog.godebug = none := by kernel_rfl
theorem laidOut : laidOutB Try.prog = true := by kernel_rfl

/-- WHAT THE WALK IS TOLD OF A SLICE OF INTEGERS THAT CAME IN: it is nil; or it leads to a row of 'cap' cells, the numbers 'zs' (the first 'len' are its elements, the rest its spare room), each fitting its kind. -/
def IsRow (k : IntKind) (w : World) (a : Option Addr) (len cap : Nat) (zs : List Int) : Prop :=
  (a = none ∧ len = 0 ∧ cap = 0 ∧ zs = []) ∨
  ∃ x, a = some x ∧ len ≤ cap ∧ cap ≤ maxLen ∧ zs.length = cap ∧ (∀ i, i < zs.length → w.cell? (x.add i) = some (.int k (zs.getD i 0))) ∧ ∀ n ∈ zs, (Lit.int k n).wf = true

/-! ### STEP 1: THE WALK: the Go text returns true, AND WRITES NOTHING THAT WAS THERE: 'Below w.heap.size w w'' (Derived/Below.lean: '.refl', '.alloc', '.drew', '.setCell' at a new block, '.trans'). Open each 'IsRow' by 'rcases' AHEAD of 'go_enter'; part every test ahead of the walk. -/
/-! ### STEP 1: THE WALK -/
set_option maxHeartbeats 4000000 in
set_option maxRecDepth 100000 in
theorem walk (a0 : Option Addr) (len0 cap0 : Nat) (z0 : List Int) (a1 : Option Addr) (len1 cap1 : Nat) (z1 : List Int) (a2 : Int) (w : World) (w0 : IsRow .i64 w a0 len0 cap0 z0) (w1 : IsRow .i64 w a1 len1 cap1 z1) (w2 : (Lit.int .i64 a2).wf = true) :
    Calls Try.prog 20 #[.slice a0 len0 cap0, .slice a1 len1 cap1, .int .i64 a2] w fun e w' => e = .returned (.bool true) ∧ Below w.heap.size w w' := by
  have hr0 : RowIn w a0 len0 cap0 := by
    rcases w0 with ⟨_, h, _⟩ | ⟨x, h1, h2, h3, h4, h5, _⟩
    · exact ⟨by simp [h], fun i hi => by omega⟩
    · exact ⟨by omega, fun i hi => ⟨x, _, h1, h2, h5 i (by omega)⟩⟩
  have hr1 : RowIn w a1 len1 cap1 := by
    rcases w1 with ⟨_, h, _⟩ | ⟨x, h1, h2, h3, h4, h5, _⟩
    · exact ⟨by simp [h], fun i hi => by omega⟩
    · exact ⟨by omega, fun i hi => ⟨x, _, h1, h2, h5 i (by omega)⟩⟩
  have HR := hid (And.intro hr0 hr1)
  clear w0 w1 w2 hr0 hr1
  obtain ⟨d, hd, hd21⟩ : ∃ d : Nat, a2 % 21 = d ∧ d < 21 := ⟨(a2 % 21).toNat, by omega, by omega⟩
  have hk1 := fun w => within12_any a2 21 w (by omega) (by omega)
  rw [hd] at hk1
  have hkw := known12_any w
  clear hd
  go_enter Try.func20, Try.ntmps20
  go_wp2_with fail
  refine hkw.mono ?_
  rintro e w1 ⟨rfl, g1⟩
  have HG1 := hid g1
  clear g1 hkw
  go_wp2_with fail
  refine (both_any (HR.out.1.kept HG1.out)).mono ?_
  rintro e w2 ⟨hb, xb, rfl, A, fp, hW, hWo, hT, g2, b2⟩
  obtain ⟨f1, f2, rfl, hp, hx, hdis⟩ := hT
  have HG2 := hid (HG1.out.trans g2 (fun _ _ f => f))
  have HP := hid (And.intro hp (And.intro hx (And.intro hW (And.intro hWo (fun b (hb : b ∈ f1) => Nat.le_trans HG1.out.size (b2 b (by simp [hb])))))))
  clear hp hx hW hWo hdis g2 b2 HG1
  go_wp2_with fail
  refine (roots_any HP.out.2.1 HP.out.2.2.1.fine.few (HR.out.2.kept HG2.out)).mono ?_
  rintro e w3 ⟨l, hl6, hlh, v, rfl, hv, g3, _⟩
  obtain ⟨va, vc, rfl, _, _⟩ := hv.shape
  have HV := hid (And.intro hlh (And.intro hv (And.intro g3 (HG2.out.trans g3 (fun _ _ f => f)))))
  clear hlh hv g3 HG2
  go_wp2_with fail
  refine (hk1 _).mono ?_
  rintro e w' ⟨rfl, rfl⟩
  clear hk1
  go_wp2_with fail
  refine (collect_ok (d := d) HP.out.2.2.1 (by omega) (HP.out.1.grew HV.out.2.2.1) HV.out.2.1 (by omega) HV.out.1).mono ?_
  rintro e w4 ⟨ob, f4, tv, rfl, p4, t4, g4, b4, c4⟩
  have hWB := WF_gcd HP.out.2.2.1 d HV.out.1
  have hrest := fun y hy h5 => rest_law (d := d) HP.out.2.2.1 HV.out.1 (y := y) hy h5
  have hreach := fun i Q S (q : Queue (A.gcd d (A.final d l)) (A.told d l) i Q S) hi y hy => Queue.all HP.out.2.2.1 HV.out.1 q hi (y := y) hy
  have hwords : (A.gcd d (A.final d l)).words = 300 := HP.out.2.2.2.1
  have hBu : (A.gcd d (A.final d l)).used ≤ 300 := by have := hWB.uw; omega
  have hth : ∀ t ∈ A.told d l, (A.gcd d (A.final d l)).has t := by
    obtain ⟨h1, h2⟩ := told_is (d := d) HP.out.2.2.1 HV.out.1
    intro t ht
    rw [h1] at ht
    obtain ⟨q, hq, rfl⟩ := List.mem_map.1 ht
    obtain ⟨z, hz1, hz2⟩ := h2 q hq
    rw [hz2]
    exact (left_is HP.out.2.2.1 HV.out.1 hz1).2.1
  have htl : (A.told d l).length ≤ 6 := by unfold AH.told; rw [CS.all_len]; exact hl6
  obtain ⟨ta, tc, rfl, _, _⟩ := t4.shape
  generalize A.told d l = T at *
  generalize A.gcd d (A.final d l) = B at *
  have H4 := hid (And.intro p4 (And.intro t4 (And.intro g4 (And.intro b4 hWB))))
  have HL := hid (And.intro hrest (And.intro hreach (And.intro hwords (And.intro hBu (And.intro hth htl)))))
  clear p4 t4 g4 b4 c4 hWB hrest hreach hwords hth
  go_wp2_with fail
  refine (objsI H4.out.1 H4.out.2.2.2.2 rfl).mono ?_
  rintro e w5 ⟨kv, rfl, hk, gk, fk⟩
  obtain ⟨ka, kc, rfl, _, _⟩ := hk.shape
  obtain ⟨n, hn⟩ : ∃ n : Nat, B.used + 1 = n := ⟨(B.used + 1).toNat, by have := H4.out.2.2.2.2.u0; omega⟩
  have hn1 : n ≤ 301 := by omega
  have hmk := make_marks n (by omega)
  have hus := usedI (H4.out.1.grew gk) (u := (n : Int) - 1) (by omega)
  have gm := Grew.alloc w5 (.cells (madeCells #[.bool false] n) 4)
  obtain ⟨qv, w6, happ, o6, q6, fr6⟩ := app_fresh ((H4.out.2.1.kept gk (fun _ _ f => f)).kept gm (fun _ _ f => f)) (by omega) 22
  have g56 : Grew w5 w6 := gm.trans q6 (fun _ _ f => f)
  have g46 : Grew w4 w6 := gk.trans g56 (fun _ _ f => f)
  have hb1 : ∀ b ∈ f1 ++ f4, w.heap.size ≤ b ∧ b < w4.heap.size := by
    intro b hb
    rcases List.mem_append.1 hb with e | e
    · exact ⟨HP.out.2.2.2.2 b e, ((HP.out.1.grew HV.out.2.2.1).grew H4.out.2.2.1).lt b e⟩
    · exact ⟨Nat.le_trans HV.out.2.2.2.size (H4.out.2.2.2.1 b e), H4.out.1.lt b e⟩
  have s45 := gk.size
  have sw4 : w.heap.size ≤ w4.heap.size := Nat.le_trans HV.out.2.2.2.size H4.out.2.2.1.size
  have hsb : w5.heap.size ∉ f1 ++ f4 := fun hm => by have := (hb1 _ hm).2; omega
  have hown : ∀ g, (Value.slice ka B.keys.length kc).ownBlock = some g → w4.heap.size ≤ g ∧ g < w5.heap.size := fun g hg => ⟨fk g hg, hk.lt hg⟩
  have hown2 : ∀ g, qv.ownBlock = some g → w5.heap.size < g := fun g hg => by have := fr6 g hg; simp at this; omega
  have HS := hid (show ReachRel w hb ob A B T f1 f4 w5.heap.size n (.slice ka B.keys.length kc) 0 qv w6 from
    ⟨T, [], ⟨((HP.out.1.grew HV.out.2.2.1).grew H4.out.2.2.1).grew g46, H4.out.1.grew g46,
      ⟨⟨o6, fun g hg => ⟨by have := hown2 g hg; omega, fun hm => by
          have a1 := hown2 g hg
          rcases List.mem_cons.1 hm with e | e
          · omega
          · have := hb1 g e; omega⟩⟩,
        ⟨hk.kept g56 (fun _ _ f => f), fun g hg => ⟨by have := hown g hg; omega, fun hm => by
          have a1 := hown g hg
          rcases List.mem_cons.1 hm with e | e
          · omega
          · have := hb1 g e; omega⟩⟩,
        ⟨Ow.nil _, fun g hg => (by cases hg)⟩, fun g hg e => by have := hown2 g hg; have := hown g e; omega, fun g hg e => (by cases e), fun g hg e => (by cases e)⟩,
      (HV.out.2.2.2.trans H4.out.2.2.1 (fun _ _ f => f)).trans g46 (fun _ _ f => f), (MarkS.new w5 n).kept q6 (fun f => f)⟩,
      Queue.start H4.out.2.2.2.2 hBu HL.out.2.2.2.2.2 HL.out.2.2.2.2.1⟩)
  have HM := hid (And.intro hsb (And.intro (Nat.le_trans sw4 s45) (And.intro hn (And.intro H4.out.2.2.2.2 HP.out.2.2.2.1))))
  rw [World.size_alloc] at happ
  have HA1 := hid happ
  clear happ o6 q6 fr6 g56 g46 gm hb1 hsb hown hown2 s45 sw4 hk gk fk H4 HV HP HR hn htl hBu
  go_wp2_with (first | (at_builtin; refine wpList_app rfl rfl rfl rfl HA1.out ?_) | (go_at_call 27; refine hus.mono ?_; rintro e w' ⟨rfl, rfl⟩))
  clear hus hmk HA1
  obtain ⟨sb, hsb⟩ : ∃ sb, w5.heap.size = sb := ⟨_, rfl⟩
  rw [hsb] at HS HM ⊢
  go_loopw [14, 15] (fun qv i wr => ∃ k : Nat, k ≤ 3000 ∧ i = .int .i64 k ∧ ReachRel w hb ob A B T f1 f4 sb n (.slice ka B.keys.length kc) k qv wr) (fun _ i _ => 3000 - (intOf i).toNat)
  case atStart => exact ⟨0, by omega, rfl, HS.out⟩
  case round =>
    clear HS
    obtain ⟨k, hk, rfl, Q, S, hR, hQ⟩ := hrel
    obtain ⟨qa, qc, rfl, hqc, _⟩ := hR.tri.ra.ow.shape
    have hfew := hQ.few
    by_cases hk1 : k < Q.length
    · have hk2 : k < 3000 := by omega
      obtain ⟨gq, cq, he, _, _, _, hcl⟩ := hR.tri.ra.ow.at (by omega)
      simp only [Value.slice.injEq] at he
      obtain ⟨rfl, _, rfl⟩ := he
      have hcq := (hcl k hk1).1
      have hkc : k < qc := by omega
      have hxh := hQ.has _ (List.getElem_mem hk1)
      have hmore := hQ.more hk1
      have hagain := hQ.again hk1
      generalize Q[k] = x at *
      have hx0 := hQ.wf.ge0 hxh
      have hxu : x < B.used := by
        obtain ⟨o, _, hmem⟩ := AH.has_find hxh
        exact (hQ.wf.range _ hmem).2
      obtain ⟨m, rfl⟩ : ∃ m : Nat, x = m := ⟨x.toNat, by omega⟩
      have hmn : m < n := by have := HM.out.2.2.1; omega
      obtain ⟨t, ht⟩ : ∃ t, B.tag (m : Int) = t := ⟨_, rfl⟩
      have htz : (t == 0) = false := by
        have := (tag_has hQ.wf (m : Int))
        rw [ht] at this
        have hne : t ≠ 0 := fun e => this.1 e hxh
        simpa using hne
      have hus := usedI hR.b (u := B.used) rfl
      have hta := tagI hR.b ht
      have hnu : ¬ B.used ≤ (m : Int) := by omega
      have hp60 := hQ.wf.shaped.ptrs_le (m : Int)
      by_cases hs : (m : Int) ∈ S
      · obtain ⟨hmc, hmf⟩ := hR.marks.at hmn (b := true) (by simpa using hs)
        have HN := hid (show ReachRel w hb ob A B T f1 f4 sb n (.slice ka B.keys.length kc) (k + 1) _ wr from ⟨Q, S, hR, hagain hs⟩)
        clear hmore hagain hcl hR hQ HL HM hs hxh ht hfew hp60 hxu
        go_wp2_with (first | (go_at_call 27; refine hus.mono ?_; rintro e w' ⟨rfl, rfl⟩) | (go_at_call 26; refine hta.mono ?_; rintro e w' ⟨rfl, rfl⟩))
        go_roundw
        case rel => exact ⟨k + 1, by omega, by go_num, HN.out⟩
        case measure => simp [intOf]; omega
      · obtain ⟨hmc, hmf⟩ := hR.marks.at hmn (b := false) (by simpa using hs)
        have hR1 := hR.mark HM.out.1 HM.out.2.1 m
        obtain ⟨ps, hps⟩ : ∃ ps, B.ptrs (m : Int) = ps := ⟨_, rfl⟩
        rw [hps] at hmore hp60
        have hpt := ptrsI hR1.b hps (by omega)
        have H1 := hid (And.intro hR1 (hmore hs))
        clear hmore hagain hcl hR hR1 hQ HL HM hs hxh ht hps hxu
        go_wp2_with (first | (go_at_call 27; refine hus.mono ?_; rintro e w' ⟨rfl, rfl⟩) | (go_at_call 26; refine hta.mono ?_; rintro e w' ⟨rfl, rfl⟩))
        refine hpt.mono ?_
        rintro e w7 ⟨pv, rfl, hpo, hpg, _⟩
        obtain ⟨qv', w8, happ, hR2⟩ := (H1.out.1.more hpg).app hpo (by omega)
        have HAPP := hid happ
        have HN := hid (show ReachRel w hb ob A B T f1 f4 sb n (.slice ka B.keys.length kc) (k + 1) qv' w8 from ⟨_, _, hR2, H1.out.2⟩)
        clear happ hR2 H1 hpo hpg hpt hus hta
        go_wp2_with (at_builtin; refine wpList_app rfl rfl rfl rfl HAPP.out ?_)
        go_roundw
        case rel => exact ⟨k + 1, by omega, by go_num, HN.out⟩
        case measure => simp [intOf]; omega
    · have hall := HL.out.2.1 k Q S hQ hk1
      have hwB : B.words = 300 := HL.out.2.2.1
      have hwA : A.words = 300 := HM.out.2.2.2.2
      have hwa := wordsI hR.a hwA
      have hwb := wordsI hR.b hwB
      have hkl : B.keys.length ≤ 500000 := by have := hQ.wf.len; unfold AH.keys; rw [List.length_map]; omega
      have H9 := hid (And.intro hR (And.intro hall (And.intro hQ.wf HM.out.2.2.1)))
      clear hR hQ hall hwB hwA HM hfew
      go_wp2
      go_loopw [17] (fun i wx => ∃ j : Nat, j ≤ B.keys.length ∧ i = .int .i64 j ∧ wx = wr) (fun i _ => B.keys.length - (intOf i).toNat)
      case atStart => exact ⟨0, Nat.zero_le _, rfl, rfl⟩
      case round =>
        obtain ⟨j, hj, rfl, rfl⟩ := hrel
        by_cases hj1 : j < B.keys.length
        · obtain ⟨gk, ck, he, hkc, _, _, hcl⟩ := H9.out.1.tri.rb.ow.at (by omega)
          simp only [Value.slice.injEq] at he
          obtain ⟨rfl, _, rfl⟩ := he
          have hck := (hcl j hj1).1
          have hjc : j < kc := by omega
          have hxh : B.has B.keys[j] := has_iff.2 (List.getElem_mem hj1)
          generalize B.keys[j] = x at *
          have hx0 := H9.out.2.2.1.ge0 hxh
          have hxu : x < B.used := by
            obtain ⟨o, _, hmem⟩ := AH.has_find hxh
            exact (H9.out.2.2.1.range _ hmem).2
          obtain ⟨m, rfl⟩ : ∃ m : Nat, x = m := ⟨x.toNat, by omega⟩
          have hmn : m < n := by have := H9.out.2.2.2; omega
          have hmn2 : ¬ (n : Int) ≤ m := by omega
          obtain ⟨hmc, hmf⟩ := H9.out.1.marks.at hmn (b := true) (by simpa using H9.out.2.1 _ hxh)
          obtain ⟨t, ht⟩ : ∃ t, B.tag (m : Int) = t := ⟨_, rfl⟩
          have hta := tagI H9.out.1.b ht
          by_cases h5 : t = 5
          · subst h5
            have hfo := followI H9.out.1.b H9.out.2.2.1 (HL.out.1 m hxh ht)
            clear hcl hxh ht hxu HL H9
            go_wp2_with (first | (go_at_call 34; refine hfo.mono ?_; rintro e w' ⟨rfl, rfl⟩) | (go_at_call 26; refine hta.mono ?_; rintro e w' ⟨rfl, rfl⟩))
            go_roundw
            case rel => exact ⟨j + 1, by omega, by go_num, trivial⟩
            case measure => simp [intOf]; omega
          · have h5' : (t == 5) = false := by simpa using h5
            clear hcl hxh ht hxu HL H9 h5
            go_wp2_with (first | (go_at_call 26; refine hta.mono ?_; rintro e w' ⟨rfl, rfl⟩))
            go_roundw
            case rel => exact ⟨j + 1, by omega, by go_num, trivial⟩
            case measure => simp [intOf]; omega
        · have HG := hid H9.out.1.grew
          clear H9 HL
          go_wp2_with fail
          refine hwb.mono ?_
          rintro e w' ⟨rfl, rfl⟩
          go_wp2_with fail
          refine hwa.mono ?_
          rintro e w' ⟨rfl, rfl⟩
          go_wp2
          go_ret
          exact ⟨rfl, HG.out.below⟩

/-! ### THE ROW's STEP: WRITTEN OUT: LEAVE IT -/
set_option maxRecDepth 100000 in
theorem lifted (os : Os) (started : os.Started) (H : Type) (enc : TypeId × Value → H) :
    ReturnsInHanded {} Try.checked os 20 .any (Rows.gcReachSpec.pre6 enc Try.prog Try.f20 Rows.gcReachRow.domain false) (Rows.gcReachSpec.post enc Try.prog Try.f20 false true false false) := by
  refine returnsInHanded_of_change (C := Try.checked) own started (by kernel_rfl) Try.func20
    (ChangeSpec.witness6 (enc := enc) (C := Try.checked) false ⟨#[], #[.slice none 0 0, .slice none 0 0, .int .i64 0], []⟩ 8 (by kernel_rfl) (by kernel_rfl) (by kernel_rfl) (by kernel_rfl)) ?_
  intro W base args ds gs before hval0 hW hcnd _
  have hval : ∀ (j : Nat) t v, Try.f20.params[j]? = some t → args[j]? = some v → Value.okWide Try.prog W .any base t v := hval0
  have hW' := hW
  obtain ⟨p, q, hA0, hV, rfl, hfz, hnd⟩ := hW
  have hA : DataW.TrodAll enc Try.prog W 0 (fun _ => true) true Try.f20.params.toList args.toList ds p := hA0
  rw [Try.params20] at hA hval
  obtain ⟨v0, vs0, d0, ds0, p0, q0, hargs, rfl, rfl, h0, r0⟩ := trodAll_cons hA
  obtain ⟨v1, vs1, d1, ds1, p1, q1, rfl, rfl, rfl, h1, r1⟩ := trodAll_cons r0
  obtain ⟨v2, vs2, d2, ds2, p2, q2, rfl, rfl, rfl, h2, r2⟩ := trodAll_cons r1
  obtain ⟨rfl, rfl, rfl⟩ := trodAll_nil r2
  obtain rfl : args = #[v0, v1, v2] := by cases args; simp_all
  obtain ⟨rfl, rfl⟩ := trodVars_none hV
  obtain ⟨a0, len0, cap0, rfl⟩ := okWide_slice Try.underlying22 (hval 0 22 v0 rfl rfl)
  have k0 := h0
  have lt0 : ∀ x ∈ p0, x.block < W.heap.size := by obtain ⟨m, hm⟩ := k0; exact DataW.trod_lt m _ _ _ hm
  obtain ⟨z0, w0⟩ : ∃ zs, IsRow .i64 W a0 len0 cap0 zs := by
    obtain ⟨fuel, hf⟩ := h0
    rcases open_ints Try.underlying22 Try.underlying3 (by kernel_rfl) hf with ⟨hcs, _⟩ | ⟨x, l, c, zs, hcs, _, hl, hm, hz, _, hcell, hwz⟩
    · simp [Value.cells] at hcs
      obtain ⟨rfl, rfl, rfl⟩ := hcs
      exact ⟨[], .inl ⟨rfl, rfl, rfl, rfl⟩⟩
    · simp [Value.cells] at hcs
      obtain ⟨rfl, rfl, rfl⟩ := hcs
      exact ⟨zs, .inr ⟨_, rfl, hl, hm, by simpa using hz, hcell, hwz⟩⟩
  obtain ⟨a1, len1, cap1, rfl⟩ := okWide_slice Try.underlying22 (hval 1 22 v1 rfl rfl)
  have k1 := h1
  have lt1 : ∀ x ∈ p1, x.block < W.heap.size := by obtain ⟨m, hm⟩ := k1; exact DataW.trod_lt m _ _ _ hm
  obtain ⟨z1, w1⟩ : ∃ zs, IsRow .i64 W a1 len1 cap1 zs := by
    obtain ⟨fuel, hf⟩ := h1
    rcases open_ints Try.underlying22 Try.underlying3 (by kernel_rfl) hf with ⟨hcs, _⟩ | ⟨x, l, c, zs, hcs, _, hl, hm, hz, _, hcell, hwz⟩
    · simp [Value.cells] at hcs
      obtain ⟨rfl, rfl, rfl⟩ := hcs
      exact ⟨[], .inl ⟨rfl, rfl, rfl, rfl⟩⟩
    · simp [Value.cells] at hcs
      obtain ⟨rfl, rfl, rfl⟩ := hcs
      exact ⟨zs, .inr ⟨_, rfl, hl, hm, by simpa using hz, hcell, hwz⟩⟩
  obtain ⟨a2, rfl, rfl, rfl, w2⟩ := open_int Try.underlying3 (hval 2 3 v2 rfl rfl) h2
  clear hA0 hval0
  refine (walk a0 len0 cap0 z0 a1 len1 cap1 z1 a2 W w0 w1 w2).mono fun e W' ⟨he, bel⟩ => ?_
  subst he
  exact ⟨_, rfl, _, _, _, [], _, [], hW', trodAll_mk1 (shut_bool Try.underlying4 _), (trodAll_cons_mk (Below.trod laidOut (by kernel_rfl) (of_decide_eq_true (by kernel_rfl)) k0 bel lt0) (trodAll_cons_mk (Below.trod laidOut (by kernel_rfl) (of_decide_eq_true (by kernel_rfl)) k1 bel lt1) (trodAll_cons_mk (shut_int Try.underlying3 w2) trodAll_mk0))), rfl, bel.frame _, fun h => by cases h⟩

theorem over : Rows.gcReachRow.holds Try.pinned (OpenSpec.ofChange Rows.gcReachSpec) :=
  OpenClaim.holds_of_wide 20 Try.f20 rfl rfl rfl rfl rfl rfl rfl ⟨rfl, rfl, rfl, rfl, rfl⟩ rfl rfl rfl rfl rfl (by kernel_rfl) Try.func20 (by kernel_rfl)
    (of_decide_eq_true (by kernel_rfl)) (by unfold Func.isWrapper; first | (rw [if_pos (by decide +kernel)]; kernel_rfl) | (rw [if_neg (by decide +kernel)]; exact ⟨rfl, rfl⟩))
    (fun os started H enc _ => lifted os started H enc)

/-- the statement -/
theorem proved : Rows.GcReachSaid := over
end Go.Proofs.Ytjhdnbediipibaa.gcReach

namespace Go.Proofs.Ytjhdnbediipibaa
theorem gcReach_holds : Rows.GcReachSaid := gcReach.proved
#print axioms gcReach_holds
end Go.Proofs.Ytjhdnbediipibaa
