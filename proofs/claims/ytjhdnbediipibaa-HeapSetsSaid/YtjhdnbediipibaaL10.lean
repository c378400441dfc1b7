/-
  A pointer that was set is that, the others are as they were: 'thunk/thunklaw11.HeapSets' returns true, for every input.
  No condition beyond the given row's own.
-/
import Derived.Test.YtjhdnbediipibaaK4
import Derived.Test.YtjhdnbediipibaaRows
import Derived.WalkKit
import Derived.ProofKit
import Derived.OpenShut
import Derived.ShutString
import Derived.ChangeOld
import Derived.Below
namespace Go.Proofs.Ytjhdnbediipibaa.heapSets
open Go.ChangeShapes Go.WideShapes Go.ChangeAt Go.RowKit
open Go.ChangeMaps (open_string shut_string)
set_option linter.unusedVariables false

theorem own : ownKnob Try.prog.godebug = none := by kernel_rfl
theorem laidOut : laidOutB Try.prog = true := by kernel_rfl

/-- WHAT THE WALK IS TOLD OF A SLICE OF INTEGERS THAT CAME IN: it is nil; or it leads to a row of 'cap' cells, the numbers 'zs' (the first 'len' are its elements, the rest its spare room), each fitting its kind. -/
def IsRow (k : IntKind) (w : World) (a : Option Addr) (len cap : Nat) (zs : List Int) : Prop :=
  (a = none ∧ len = 0 ∧ cap = 0 ∧ zs = []) ∨
  ∃ x, a = some x ∧ len ≤ cap ∧ cap ≤ maxLen ∧ zs.length = cap ∧ (∀ i, i < zs.length → w.cell? (x.add i) = some (.int k (zs.getD i 0))) ∧ ∀ n ∈ zs, (Lit.int k n).wf = true

/-! ### STEP 1: THE WALK: the Go text returns true, AND WRITES NOTHING THAT WAS THERE: 'Below w.heap.size w w'' (Derived/Below.lean: '.refl', '.alloc', '.drew', '.setCell' at a new block, '.trans'). Open each 'IsRow' by 'rcases' AHEAD of 'go_enter'; part every test ahead of the walk. -/
/-- six atoms, and a function -/
structure SetsInv (k : Nat) (A : AH) (W : List Int) : Prop where
  wf : A.WF
  keys : A.keys = [0, 2, 4, 6, 8, 10, 12]
  find : A.find 12 = some ⟨3, W, [5]⟩
  len : W.length = k
/-- a round -/
def SetsRel (w : World) (hb k gw : Nat) (wr : World) : Prop :=
  ∃ A fp W, PH wr hb A fp ∧ SetsInv k A W ∧ Grew w wr ∧ (∀ b ∈ fp, w.heap.size ≤ b) ∧ Ow wr (.slice (some ⟨gw, 0, none⟩) k k) W ∧ gw ∉ fp ∧ w.heap.size ≤ gw
theorem SetsInv.has {k : Nat} {A : AH} {W : List Int} (h : SetsInv k A W) {t : Nat} (ht : t < 7) : A.has (2 * (t : Int)) := by
  rw [has_iff]
  have := h.keys
  unfold AH.keys at this
  rw [this]
  rcases t with _ | _ | _ | _ | _ | _ | _ | t <;> simp <;> omega
theorem SetsInv.no {k : Nat} {A : AH} {W : List Int} (h : SetsInv k A W) (t : Nat) : ¬ A.has (2 * (t : Int) + 1) := by
  rw [has_iff]
  have := h.keys
  unfold AH.keys at this
  rw [this]
  simp; omega
theorem SetsInv.ok {k : Nat} {A : AH} {W : List Int} (h : SetsInv k A W) {t : Nat} (ht : t < 7) (j : Int) : A.SetOk 12 j (2 * (t : Int)) ↔ 0 ≤ j ∧ j < k := by
  have h12 : A.has 12 := by unfold AH.has; rw [h.find]; simp
  constructor
  · rintro ⟨_, _, h1, h2⟩
    rw [(ptrs_find h.find).1, h.len] at h2
    exact ⟨h1, h2⟩
  · rintro ⟨h1, h2⟩
    exact ⟨h12, h.has ht, h1, by rw [(ptrs_find h.find).1, h.len]; exact h2⟩
theorem SetsInv.set {k : Nat} {A : AH} {W : List Int} (h : SetsInv k A W) {t m : Nat} (ht : t < 7) (hm : m < k) : SetsInv k (A.set 12 m (2 * (t : Int))) (W.set m (2 * (t : Int))) := by
  have h12 : A.has 12 := by unfold AH.has; rw [h.find]; simp
  obtain ⟨e1, e2, e3⟩ := ptrs_find h.find
  refine ⟨WF_set h.wf ((h.ok ht m).2 ⟨by omega, by omega⟩), ?_, ?_, by simpa using h.len⟩
  · show (updO _ _ _).map (·.1) = _
    rw [updO_keys]; exact h.keys
  · rw [set_find h12, if_pos rfl, e1, e2, e3]; rfl

/-! ### STEP 1: THE WALK -/
set_option maxHeartbeats 4000000 in
set_option maxRecDepth 100000 in
theorem walk (a0 : Int) (a1 : Option Addr) (len1 cap1 : Nat) (z1 : List Int) (w : World) (w0 : (Lit.int .i64 a0).wf = true) (w1 : IsRow .i64 w a1 len1 cap1 z1) :
    Calls Try.prog 12 #[.int .i64 a0, .slice a1 len1 cap1] w fun e w' => e = .returned (.bool true) ∧ Below w.heap.size w w' := by
  have hr1 : RowIn w a1 len1 cap1 := by
    rcases w1 with ⟨_, h, _⟩ | ⟨x, h1, h2, h3, h4, h5, _⟩
    · exact ⟨by simp [h], fun i hi => by omega⟩
    · exact ⟨by omega, fun i hi => ⟨x, _, h1, h2, h5 i (by omega)⟩⟩
  have HR := hid hr1
  have hlm := hr1.1
  unfold maxLen at hlm
  clear w0 w1 hr1
  obtain ⟨q, hq, hq9⟩ : ∃ q : Nat, a0 % 20 = q ∧ q < 20 := ⟨(a0 % 20).toNat, by omega, by omega⟩
  have hk1 := fun w => within11_any a0 20 w (by omega) (by omega)
  rw [hq] at hk1
  have hkw := known11_any w
  clear hq
  go_enter Try.func12, Try.ntmps12
  go_wp2_with fail
  refine hkw.mono ?_
  rintro e w1 ⟨rfl, g1⟩
  have HG := hid g1
  clear g1 hkw
  go_wp2_with fail
  refine (new_any _ _).mono ?_
  rintro e w2 ⟨hb, f1, rfl, p1, g2, c1⟩
  have HS := hid (OneRel.start HG.out p1 g2 c1 (atoms_zero 200 (by omega) (by omega)))
  clear p1 g2 c1 HG
  go_wp2
  go_loopw [6] (fun i wr => ∃ k : Nat, k ≤ 6 ∧ i = .int .i64 k ∧ OneRel (Atoms k 200) w hb wr) (fun i _ => 6 - (intOf i).toNat)
  case atStart => exact ⟨0, by omega, rfl, HS.out⟩
  case round =>
    clear HS
    obtain ⟨k, hk, rfl, A, fp, r1, r2, r3, r4⟩ := hrel
    by_cases hlt : k < 6
    · have hal := alloc_yes r1 r2.1 7 (Ow.nil _) (Ow.nil _) (atoms_ok r2 (by omega))
      have HM := hid (fun e w1 (h : MadePost wr hb A fp 7 [] [] e w1) => OneRel.made (Ψ := Atoms (k + 1) 200) r2.2.1 r3 r4 h (atoms_add r2 (by omega)))
      clear r1 r2 r3 r4 hk1
      go_wp2_with fail
      refine hal.mono ?_
      intro e w3 hp
      obtain ⟨rfl, h3⟩ := HM.out _ _ hp
      have H3 := hid h3
      clear h3 hp hal HM
      go_wp2
      go_roundw
      case rel => exact ⟨k + 1, by omega, by go_num, H3.out⟩
      case measure => simp [intOf]; omega
    · have hk6 : k = 6 := by omega
      subst hk6
      have HA := hid (And.intro r1 (And.intro r2 (And.intro r3 r4)))
      clear r1 r2 r3 r4 hk hlt
      go_wp2_with fail
      refine (hk1 _).mono ?_
      rintro e w' ⟨rfl, rfl⟩
      clear hk1
      go_upto_region 11 with (fail)
      obtain ⟨k, hkq⟩ : ∃ k : Nat, k = q + 1 := ⟨_, rfl⟩
      have hk1 : 1 ≤ k := by omega
      have hk20 : k ≤ 20 := by omega
      have hqm : 1 + (q : Int) = (k : Int) := by omega
      rw [hqm]
      clear hqm hkq hq9
      obtain ⟨w3, hmk, mo, mg⟩ := make_zero wr k (by omega)
      have HM := hid (And.intro mo mg)
      clear mo mg
      go_wp2_with fail
      obtain ⟨r1, r2, r3, r4⟩ := HA.out
      obtain ⟨mo, mg⟩ := HM.out
      have g0 := Grew.alloc w3 (.cells #[.int .i64 5] 3)
      have ok : A.AllocOk 3 (List.replicate k 0) [5] := ⟨⟨by decide, by decide, by simp; omega, by simp, fun e => by simp at e, fun e => by simp at e, fun e => by simp at e⟩, fun y hy => .inl (by
          obtain ⟨_, rfl⟩ := List.mem_replicate.1 hy
          exact atoms_has r2 (i := 0) (by omega)), by rw [r2.2.1, r2.2.2.1]; simp [osz]; omega⟩
      refine (alloc_yes ((r1.grew mg).grew g0) r2.1 3 (mo.kept g0 (fun _ _ f => f)) (Ow.one w3 5) ok).mono ?_
      intro e w4 hp
      obtain ⟨rfl, f4, p4, g4, b4, fr4, bb4⟩ := rel_made r2.2.1 (r3.trans (mg.trans g0 (fun _ _ f => f)) (fun _ _ f => f)) r4 hp
      have hgw : wr.heap.size ∉ f4 := fun hm => by
        have a1 := r1.lt
        have a2 := mo.lt (g := wr.heap.size) rfl
        rcases bb4 _ hm with e | e
        · have := a1 _ e; omega
        · have := g0.size; omega
      have hgf : wr.heap.size ∉ fp := fun hm => by have := r1.lt _ hm; omega
      have mo4 : Ow w4 (.slice (some ⟨wr.heap.size, 0, none⟩) k k) (List.replicate k 0) := (mo.kept g0 (fun _ _ f => f)).kept fr4 (fun g hg hm => by simp [Value.ownBlock] at hg; subst hg; exact hgf hm)
      have hfind := find_newest r2.1 3 (List.replicate k 0) [5]
      rw [r2.2.1] at hfind
      have HS := hid (show SetsRel w hb k wr.heap.size w4 from ⟨_, f4, _, p4, ⟨WF_add r2.1 ok, by
          show (A.objs ++ [(A.used, (⟨3, List.replicate k 0, [5]⟩ : HObj))]).map (·.1) = _
          have := r2.2.2.2
          unfold AH.keys at this
          rw [List.map_append, this, r2.2.1]; rfl, hfind, by simp⟩, g4, b4, mo4, hgw, r3.size⟩)
      generalize wr.heap.size = gw at *
      clear r1 r2 r3 r4 mo mg g0 hp p4 g4 b4 fr4 bb4 hgw hgf mo4 hfind ok HA HM hmk
      go_wp2
      go_loopw [11] (fun i wr => ∃ n : Nat, n ≤ 40 ∧ n ≤ len1 ∧ i = .int .i64 n ∧ SetsRel w hb k gw wr) (fun i _ => 40 - (intOf i).toNat)
      case atStart => exact ⟨0, by omega, Nat.zero_le _, rfl, HS.out⟩
      case round =>
        clear HS
        obtain ⟨n, hn, hnl, rfl, A, fp, W, r1, r2, r3, r4, r5, r6, r7⟩ := hrel
        by_cases hlt : n < len1 ∧ n < 40
        · obtain ⟨hlt1, hlt2⟩ := hlt
          obtain ⟨x, v, rfl, hcap, hc⟩ := HR.out.2 n hlt1
          replace hc := r3.cell hc (fun f => f)
          obtain ⟨t, ht, ht7⟩ : ∃ t : Nat, wrap64 (v.tdiv 30) % 7 = t ∧ t < 7 := ⟨(wrap64 (v.tdiv 30) % 7).toNat, by omega, by omega⟩
          have h7 := fun n => within11_any (wrap64 (v.tdiv 30)) 7 (wr.drewN n) (by omega) (by omega)
          rw [ht] at h7
          have hv := fun n => within11_any v ((k : Int) + 2) (wr.drewN n) (by omega) (by omega)
          obtain ⟨jn, hj, hjk⟩ : ∃ jn : Nat, v % ((k : Int) + 2) = jn ∧ jn < k + 2 := ⟨(v % ((k : Int) + 2)).toNat, by have := Int.emod_nonneg v (show (k : Int) + 2 ≠ 0 by omega); omega, by have := Int.emod_lt_of_pos v (show (0 : Int) < (k : Int) + 2 by omega); omega⟩
          rw [hj] at hv
          have H := hid (And.intro r1 (And.intro r2 (And.intro r3 (And.intro r4 (And.intro r5 (And.intro r6 r7))))))
          clear r1 r2 r3 r4 r5 r6 r7 ht hj
          by_cases hz : jn = 0
          · subst hz
            simp only [Int.natCast_zero] at hv
            go_upto_region 18 with (fail)
            go_quiet (first | (go_at_call_of 36 (Value.int .i64 7); exact quiet_same (h7 _)) | (go_at_call 36; exact quiet_same (hv _)))
            clear h7 hv
            go_wp2_with fail
            obtain ⟨r1, r2, r3, r4, r5, r6, r7⟩ := H.out
            have gq := (Fr.refl (fun _ => False) wr).drewN nq
            refine (set_any (r1.grew gq) 12 (-1) (2 * (t : Int)) r2.wf.shaped).mono ?_
            intro e w5 hp5
            unfold SetPost at hp5
            rw [if_neg (fun ok => by have := ((r2.ok ht7 (-1)).1 ok); omega)] at hp5
            obtain ⟨rfl, rfl⟩ := hp5
            have HQ := hid (And.intro (r1.grew gq) (And.intro r2 (And.intro (r3.trans gq (fun _ _ f => f)) (And.intro r4 (And.intro (r5.kept gq (fun _ _ f => f)) (And.intro r6 r7))))))
            clear r1 r2 r3 r4 r5 r6 r7 gq H
            go_wp2_with fail
            refine (set_any HQ.out.1 12 (-1) (2 * (t : Int) + 1) HQ.out.2.1.wf.shaped).mono ?_
            intro e w5 hp5
            unfold SetPost at hp5
            rw [if_neg (fun ok => HQ.out.2.1.no t ok.2.1)] at hp5
            obtain ⟨rfl, rfl⟩ := hp5
            have HN := hid (show SetsRel w hb k gw _ from ⟨A, fp, W, HQ.out⟩)
            clear HQ
            go_wp2
            go_roundw
            case rel => exact ⟨n + 1, by omega, by omega, by go_num, HN.out⟩
            case measure => simp [intOf]; omega
          by_cases hz2 : jn ≤ k
          · obtain ⟨m, rfl⟩ : ∃ m : Nat, jn = m + 1 := ⟨jn - 1, by omega⟩
            have hmk2 : m < k := by omega
            have hmi : (m : Int) < (k : Int) := by omega
            rw [show ((m + 1 : Nat) : Int) = (m : Int) + 1 from by omega] at hv
            go_upto_region 18 with (fail)
            go_quiet (first | (go_at_call_of 36 (Value.int .i64 7); exact quiet_same (h7 _)) | (go_at_call 36; exact quiet_same (hv _)))
            clear h7 hv
            go_wp2_with fail
            obtain ⟨r1, r2, r3, r4, r5, r6, r7⟩ := H.out
            have gq := (Fr.refl (fun _ => False) wr).drewN nq
            refine (set_any (r1.grew gq) 12 m (2 * (t : Int)) r2.wf.shaped).mono ?_
            intro e w5 hp5
            unfold SetPost at hp5
            rw [if_pos ((r2.ok ht7 m).2 ⟨by omega, by omega⟩)] at hp5
            obtain ⟨rfl, k1, k2⟩ := hp5
            have k3 : Grew w w5 := grew_step (r3.trans gq (fun _ _ f => f)) k2 r4
            have k5 := (r5.kept gq (fun _ _ f => f)).kept k2 (fun g hg hm => by simp [Value.ownBlock] at hg; subst hg; exact r6 hm)
            have HQ := hid (And.intro k1 (And.intro (r2.set ht7 hmk2) (And.intro k3 (And.intro r4 (And.intro k5 (And.intro r6 r7))))))
            clear r1 r2 r3 r4 r5 r6 r7 gq k1 k2 k3 k5 H
            go_wp2_with fail
            refine (set_any HQ.out.1 12 m (2 * (t : Int) + 1) HQ.out.2.1.wf.shaped).mono ?_
            intro e w6 hp5
            unfold SetPost at hp5
            rw [if_neg (fun ok => HQ.out.2.1.no t ok.2.1)] at hp5
            obtain ⟨rfl, rfl⟩ := hp5
            obtain ⟨r1, r2, r3, r4, r5, r6, r7⟩ := HQ.out
            have hWk : W.length = k := by simpa using r2.len
            have r5' : Ow w5 (.slice (some ⟨gw, 0, none⟩) W.length k) W := by rw [hWk]; exact r5
            obtain ⟨g, cap, he, hcp, _, _, hcl⟩ := r5'.at (by omega)
            cases he
            obtain ⟨old, hcm⟩ : ∃ old, w5.cell? ⟨gw, m, none⟩ = some (Kv old) := ⟨_, (hcl m (by omega)).1⟩
            have hfm := (hcl m (by omega)).2
            have hF : Fr (fun q => q = gw) w5 (w5.setCell ⟨gw, m, none⟩ (.int .i64 (2 * (t : Int)))) := (Fr.refl (fun q => q = gw) w5).setCell (p := ⟨gw, m, none⟩) (fun _ => rfl) _
            have hset := r5'.set m (2 * (t : Int))
            rw [show (W.set m (2 * (t : Int))).length = k from by simpa using hWk] at hset
            have HN := hid (show SetsRel w hb k gw (w5.setCell ⟨gw, m, none⟩ (.int .i64 (2 * (t : Int)))) from ⟨_, fp, _, r1.kept hF (fun b hb e => r6 (e ▸ hb)), r2, grew_step r3 hF (fun i e => by subst e; exact r7), r4, hset, r6, r7⟩)
            clear r1 r2 r3 r4 r5 r6 r7 r5' hWk hcl hcp hF hset HQ
            go_wp2
            go_roundw
            case rel => exact ⟨n + 1, by omega, by omega, by go_num, HN.out⟩
            case measure => simp [intOf]; omega
          · have hjk2 : jn = k + 1 := by omega
            subst hjk2
            rw [show ((k + 1 : Nat) : Int) = (k : Int) + 1 from by omega] at hv
            have hkk : ¬ (k : Int) < (k : Int) := by omega
            go_upto_region 18 with (fail)
            go_quiet (first | (go_at_call_of 36 (Value.int .i64 7); exact quiet_same (h7 _)) | (go_at_call 36; exact quiet_same (hv _)))
            clear h7 hv
            go_wp2_with fail
            obtain ⟨r1, r2, r3, r4, r5, r6, r7⟩ := H.out
            have gq := (Fr.refl (fun _ => False) wr).drewN nq
            refine (set_any (r1.grew gq) 12 (k : Int) (2 * (t : Int)) r2.wf.shaped).mono ?_
            intro e w5 hp5
            unfold SetPost at hp5
            rw [if_neg (fun ok => by have := ((r2.ok ht7 (k : Int)).1 ok); omega)] at hp5
            obtain ⟨rfl, rfl⟩ := hp5
            have HQ := hid (And.intro (r1.grew gq) (And.intro r2 (And.intro (r3.trans gq (fun _ _ f => f)) (And.intro r4 (And.intro (r5.kept gq (fun _ _ f => f)) (And.intro r6 r7))))))
            clear r1 r2 r3 r4 r5 r6 r7 gq H
            go_wp2_with fail
            refine (set_any HQ.out.1 12 (k : Int) (2 * (t : Int) + 1) HQ.out.2.1.wf.shaped).mono ?_
            intro e w5 hp5
            unfold SetPost at hp5
            rw [if_neg (fun ok => HQ.out.2.1.no t ok.2.1)] at hp5
            obtain ⟨rfl, rfl⟩ := hp5
            have HN := hid (show SetsRel w hb k gw _ from ⟨A, fp, W, HQ.out⟩)
            clear HQ
            go_wp2
            go_roundw
            case rel => exact ⟨n + 1, by omega, by omega, by go_num, HN.out⟩
            case measure => simp [intOf]; omega
        · have hor : ¬ n < len1 ∨ (n < len1 ∧ ¬ n < 40) := by by_cases h : n < len1 <;> simp_all
          obtain ⟨e1, e2, e3⟩ := ptrs_find r2.find
          have hpt := ptrsI r1 e1 (by have := r2.len; omega)
          have hnu := fun wx (g : Grew wr wx) => numsI (r1.grew g) e2 (by simp)
          have htg := fun wx (g : Grew wr wx) => tagI (r1.grew g) e3
          have hWl := r2.len
          have HB := hid (And.intro r5 r3)
          clear r1 r2 r3 r4 r5 r6 r7 e1 e2 e3
          rcases hor with hlt1 | ⟨hlt1, hlt2⟩
          all_goals clear hlt
          all_goals go_wp2_with fail
          all_goals refine hpt.mono ?_
          all_goals rintro e w5 ⟨v5, rfl, o5, g5, _⟩
          all_goals have hin := intsI o5 (HB.out.1.kept g5 (fun _ _ f => f)) (by omega)
          all_goals have HG5 := hid g5
          all_goals clear o5 g5 hpt
          all_goals go_wp2_with fail
          all_goals refine hin.mono ?_
          all_goals rintro e w6 ⟨rfl, g6⟩
          all_goals have HG6 := hid (HG5.out.trans g6 (fun _ _ f => f))
          all_goals clear g6 hin HG5
          all_goals go_wp2_with fail
          all_goals refine (hnu _ HG6.out).mono ?_
          all_goals rintro e w7 ⟨v7, rfl, o7, g7, _⟩
          all_goals have g0 := Grew.alloc w7 (.cells #[.int .i64 5] 3)
          all_goals have hin := intsI (o7.kept g0 (fun _ _ f => f)) (Ow.one w7 5) (by simp)
          all_goals have HG7 := hid ((HG6.out.trans (g7.trans g0 (fun _ _ f => f)) (fun _ _ f => f) : Grew wr _))
          all_goals clear o7 g7 g0 hnu HG6
          all_goals go_wp2_with fail
          all_goals refine hin.mono ?_
          all_goals rintro e w8 ⟨rfl, g8⟩
          all_goals have HG8 := hid (HG7.out.trans g8 (fun _ _ f => f))
          all_goals clear g8 hin HG7
          all_goals go_wp2_with fail
          all_goals refine (htg _ HG8.out).mono ?_
          all_goals rintro e w' ⟨rfl, rfl⟩
          all_goals have HW := hid (HB.out.2.trans HG8.out (fun _ _ f => f))
          all_goals clear htg HG8
          all_goals go_wp2
          all_goals go_ret
          all_goals exact ⟨rfl, HW.out.below⟩

/-! ### THE ROW's STEP: WRITTEN OUT: LEAVE IT -/
set_option maxRecDepth 100000 in
theorem lifted (os : Os) (started : os.Started) (H : Type) (enc : TypeId × Value → H) :
    ReturnsInHanded {} Try.checked os 12 .any (Rows.heapSetsSpec.pre6 enc Try.prog Try.f12 Rows.heapSetsRow.domain false) (Rows.heapSetsSpec.post enc Try.prog Try.f12 false true false false) := by
  refine returnsInHanded_of_change (C := Try.checked) own started (by kernel_rfl) Try.func12
    (ChangeSpec.witness6 (enc := enc) (C := Try.checked) false ⟨#[], #[.int .i64 0, .slice none 0 0], []⟩ 8 (by kernel_rfl) (by kernel_rfl) (by kernel_rfl) (by kernel_rfl)) ?_
  intro W base args ds gs before hval0 hW hcnd _
  have hval : ∀ (j : Nat) t v, Try.f12.params[j]? = some t → args[j]? = some v → Value.okWide Try.prog W .any base t v := hval0
  have hW' := hW
  obtain ⟨p, q, hA0, hV, rfl, hfz, hnd⟩ := hW
  have hA : DataW.TrodAll enc Try.prog W 0 (fun _ => true) true Try.f12.params.toList args.toList ds p := hA0
  rw [Try.params12] at hA hval
  obtain ⟨v0, vs0, d0, ds0, p0, q0, hargs, rfl, rfl, h0, r0⟩ := trodAll_cons hA
  obtain ⟨v1, vs1, d1, ds1, p1, q1, rfl, rfl, rfl, h1, r1⟩ := trodAll_cons r0
  obtain ⟨rfl, rfl, rfl⟩ := trodAll_nil r1
  obtain rfl : args = #[v0, v1] := by cases args; simp_all
  obtain ⟨rfl, rfl⟩ := trodVars_none hV
  obtain ⟨a0, rfl, rfl, rfl, w0⟩ := open_int Try.underlying3 (hval 0 3 v0 rfl rfl) h0
  obtain ⟨a1, len1, cap1, rfl⟩ := okWide_slice Try.underlying22 (hval 1 22 v1 rfl rfl)
  have k1 := h1
  have lt1 : ∀ x ∈ p1, x.block < W.heap.size := by obtain ⟨m, hm⟩ := k1; exact DataW.trod_lt m _ _ _ hm
  obtain ⟨z1, w1⟩ : ∃ zs, IsRow .i64 W a1 len1 cap1 zs := by
    obtain ⟨fuel, hf⟩ := h1
    rcases open_ints Try.underlying22 Try.underlying3 (by kernel_rfl) hf with ⟨hcs, _⟩ | ⟨x, l, c, zs, hcs, _, hl, hm, hz, _, hcell, hwz⟩
    · simp [Value.cells] at hcs
      obtain ⟨rfl, rfl, rfl⟩ := hcs
      exact ⟨[], .inl ⟨rfl, rfl, rfl, rfl⟩⟩
    · simp [Value.cells] at hcs
      obtain ⟨rfl, rfl, rfl⟩ := hcs
      exact ⟨zs, .inr ⟨_, rfl, hl, hm, by simpa using hz, hcell, hwz⟩⟩
  clear hA0 hval0
  refine (walk a0 a1 len1 cap1 z1 W w0 w1).mono fun e W' ⟨he, bel⟩ => ?_
  subst he
  exact ⟨_, rfl, _, _, _, [], _, [], hW', trodAll_mk1 (shut_bool Try.underlying4 _), (trodAll_cons_mk (shut_int Try.underlying3 w0) (trodAll_cons_mk (Below.trod laidOut (by kernel_rfl) (of_decide_eq_true (by kernel_rfl)) k1 bel lt1) trodAll_mk0)), rfl, bel.frame _, fun h => by cases h⟩

theorem over : Rows.heapSetsRow.holds Try.pinned (OpenSpec.ofChange Rows.heapSetsSpec) :=
  OpenClaim.holds_of_wide 12 Try.f12 rfl rfl rfl rfl rfl rfl rfl ⟨rfl, rfl, rfl, rfl, rfl⟩ rfl rfl rfl rfl rfl (by kernel_rfl) Try.func12 (by kernel_rfl)
    (of_decide_eq_true (by kernel_rfl)) (by unfold Func.isWrapper; first | (rw [if_pos (by decide +kernel)]; kernel_rfl) | (rw [if_neg (by decide +kernel)]; exact ⟨rfl, rfl⟩))
    (fun os started H enc _ => lifted os started H enc)

/-- the statement -/
theorem proved : Rows.HeapSetsSaid := over
end Go.Proofs.Ytjhdnbediipibaa.heapSets

namespace Go.Proofs.Ytjhdnbediipibaa
theorem heapSets_holds : Rows.HeapSetsSaid := heapSets.proved
#print axioms heapSets_holds
end Go.Proofs.Ytjhdnbediipibaa
