import Derived.Test.YtjhdnbediipibaaE6
import Derived.Deep.Cut
import Derived.Deep.CutRange
import Derived.Deep.CutBlock
/-! Step: one thing done on both heaps. -/
namespace Go.Proofs.Ytjhdnbediipibaa
open Go.RowKit

/-- a row of one's own, one more -/
theorem mine_app {w wr : World} {v : Value} {l : List Int} (r : Ow wr v l) (g : Grew w wr) (f : ∀ b, v.ownBlock = some b → w.heap.size ≤ b) (z : Int) (hl : l.length ≤ 1000000) :
    ∃ v' w', (Builtin.append_ #[22, 22] 22 #[v, .slice (some ⟨wr.heap.size, 0, none⟩) 1 1]).run Try.prog (wr.alloc (.cells #[.int .i64 z] 3)) = .ok v' w' ∧ Ow w' v' (l ++ [z]) ∧ Grew w w' ∧ ∀ b, v'.ownBlock = some b → w.heap.size ≤ b := by
  obtain ⟨v', w', happ, h2, h3, h4⟩ := app_ow (r.kept (Grew.alloc wr (.cells #[.int .i64 z] 3)) (fun _ _ f => f)) (Ow.one wr z) (by simp; omega) 22
  refine ⟨v', w', happ, h2, grew_step (g.trans (Grew.alloc wr (.cells #[.int .i64 z] 3)) (fun _ _ f => f)) h3 (fun i hi => f i hi), fun b hb => ?_⟩
  have := g.size
  rcases h4 b hb with e | e
  · exact f b e
  · simp at e; omega
theorem sw_lt {m i j : Int} (h : (m == i) = true) (hi : i < j) : Value.bool (m == i) = Value.bool (decide (m < j)) := by
  rw [h]; simp at h; subst h; simp [hi]

/-- what Step leaves -/
def StepPost (w : World) (hb xb : Nat) (A : AH) (fp : List Nat) (e : Ending) (w' : World) : Prop :=
  e = .returned (.bool true) ∧ ∃ A', A'.WF ∧ A'.words = A.words ∧ Went w hb xb fp A' w'

set_option maxHeartbeats 4000000 in
set_option maxRecDepth 100000 in
theorem step_any {w : World} {hb xb : Nat} {A : AH} {fp : List Nat} (h : Two w hb xb A fp) (hW : A.WF) (n raw : Int) :
    Calls Try.prog 41 #[.pointer (some ⟨hb, 0, none⟩), .pointer (some ⟨xb, 0, none⟩), .int .i64 n, .int .i64 raw] w (StepPost w hb xb A fp) := by
  have hk1 := fun w => within11_any n 16 w (by omega) (by omega)
  have hm0 := Int.emod_nonneg n (show (16 : Int) ≠ 0 by omega)
  have hm1 := Int.emod_lt_of_pos n (show (0 : Int) < 16 by omega)
  have H := hid (And.intro h hW)
  clear h hW
  go_enter Try.func41, Try.ntmps41
  go_wp2_with fail
  refine (hk1 _).mono ?_
  rintro e w' ⟨rfl, rfl⟩
  clear hk1
  generalize n % 16 = m at *
  generalize wrap64 (n.tdiv 16) = k at *
  go_upto_if 25 with (fail)
  go_cut [25] from 26 to 34 (fun v wx => v = .bool (decide (m < 9)) ∧ wx = w)
  case first =>
    clear H
    go_wp2
    all_goals go_meet
    all_goals (refine ⟨?_, rfl⟩; go_light; simp only [beq_iff_eq, beq_eq_false_iff_ne, ne_eq] at *; congr 1; rw [Bool.eq_iff_iff]; simp only [beq_iff_eq, decide_eq_true_eq]; omega)
  case rest =>
    obtain ⟨rfl, hw⟩ := hcut
    replace hw := hw.symm
    subst hw
    by_cases h9 : m < 9
    · simp only [h9, decide_true]
      obtain ⟨hT, hW⟩ := H.out
      have b7 := Int.emod_nonneg k (show (7 : Int) ≠ 0 by omega)
      have b7' := Int.emod_lt_of_pos k (show (0 : Int) < 7 by omega)
      go_wp2_with fail
      refine (within11_any _ 7 _ (by omega) (by omega)).mono ?_
      rintro e w' ⟨rfl, rfl⟩
      generalize k % 7 = t0 at *
      go_wp2_with fail
      refine (within11_any _ 4 _ (by omega) (by omega)).mono ?_
      rintro e w' ⟨rfl, rfl⟩
      obtain ⟨p0, hp0, hp4⟩ : ∃ p0 : Nat, wrap64 (k.tdiv 7) % 4 = p0 ∧ p0 ≤ 3 := ⟨(wrap64 (k.tdiv 7) % 4).toNat, by omega, by omega⟩
      rw [hp0]
      clear hp0
      go_wp2_with fail
      refine (within11_any _ 3 _ (by omega) (by omega)).mono ?_
      rintro e w' ⟨rfl, rfl⟩
      obtain ⟨q0, hq0, hq3⟩ : ∃ q0 : Nat, wrap64 (k.tdiv 28) % 3 = q0 ∧ q0 ≤ 2 := ⟨(wrap64 (k.tdiv 28) % 3).toNat, by omega, by omega⟩
      rw [hq0]
      clear hq0
      go_upto_block 1 with (fail)
      go_cut [13, 14] from 45 to 50 (fun p q wx => ∃ p1 q1 : Nat, p = .int .i64 p1 ∧ q = .int .i64 q1 ∧ p1 ≤ 3 ∧ q1 ≤ 2 ∧ wx = w)
      case first =>
        clear H hT hW
        go_wp2
        all_goals go_meet
        · exact ⟨2, 0, rfl, rfl, by omega, by omega, rfl⟩
        · exact ⟨1, 0, rfl, rfl, by omega, by omega, rfl⟩
        · exact ⟨1, 1, rfl, rfl, by omega, by omega, rfl⟩
        · exact ⟨p0, q0, rfl, rfl, hp4, hq3, rfl⟩
      case rest =>
        obtain ⟨p1, q1, rfl, rfl, hp1, hq1, hw⟩ := hcut
        replace hw := hw.symm
        subst hw
        have h23 := Int.emod_nonneg k (show (23 : Int) ≠ 0 by omega)
        go_wp2_with fail
        refine (within11_any _ 23 _ (by omega) (by omega)).mono ?_
        rintro e w' ⟨rfl, rfl⟩
        generalize k % 23 = r23 at *
        go_upto_if 53 with (fail)
        go_cut [10, 13] from 51 to 59 (fun t p wx => ∃ (t1 : Int) (p2 : Nat), t = .int .i64 t1 ∧ p = .int .i64 p2 ∧ p2 ≤ 62 ∧ wx = w)
        case first =>
          clear H hT hW
          go_wp2_with fail
          · refine (within11_any _ 9 _ (by omega) (by omega)).mono ?_
            rintro e w' ⟨rfl, rfl⟩
            obtain ⟨p5, hp5, hp6⟩ : ∃ p5 : Nat, wrap64 (k.tdiv 5) % 63 = p5 ∧ p5 ≤ 62 := ⟨(wrap64 (k.tdiv 5) % 63).toNat, by omega, by omega⟩
            go_wp2_with fail
            refine (within11_any _ 63 _ (by omega) (by omega)).mono ?_
            rintro e w' ⟨rfl, rfl⟩
            rw [hp5]
            clear hp5
            go_wp2
            go_meet
            exact ⟨_, p5, rfl, rfl, hp6, rfl⟩
          · go_meet
            exact ⟨_, p1, rfl, rfl, by omega, rfl⟩
        case rest =>
          obtain ⟨t1, p2, rfl, rfl, hp2, hw⟩ := hcut
          replace hw := hw.symm
          subst hw
          go_wp2
          go_loopw [11, 15] (fun pv i wr => ∃ l : List Int, l.length ≤ p2 ∧ i = .int .i64 l.length ∧ Ow wr pv l ∧ Grew w wr ∧ ∀ b, pv.ownBlock = some b → w.heap.size ≤ b) (fun _ i _ => p2 - (intOf i).toNat)
          case atStart => exact ⟨[], by simp, rfl, Ow.nil _, Fr.refl _ _, by simp [Value.ownBlock]⟩
          case round =>
            obtain ⟨l, hl, rfl, r1, r2, r3⟩ := hrel
            by_cases hlt : l.length < p2
            · obtain ⟨f1, f2, rfl, hp, hx, hd⟩ := id hT
              have HR := hid (And.intro r1 (And.intro r2 r3))
              have HX := hid hx
              clear r1 r2 r3 hp hx hd H
              go_wp2_with fail
              refine (pick_any (HX.out.grew HR.out.2.1) hW.fine.few _).mono ?_
              rintro e w1 ⟨rfl, g1⟩
              generalize A.pickV _ = z
              obtain ⟨r1, r2, r3⟩ := HR.out
              obtain ⟨v', w2, happ, h2, h3, h4⟩ := mine_app (r1.kept g1 (fun _ _ f => f)) (r2.trans g1 (fun _ _ f => f)) r3 z (by omega)
              have HAPP := hid happ
              have HN := hid (And.intro h2 (And.intro h3 h4))
              clear r1 r2 r3 g1 happ h2 h3 h4 HR HX hT hW
              go_wp2_with (at_builtin; refine wpList_app rfl rfl rfl rfl HAPP.out ?_)
              go_roundw
              case rel => exact ⟨l ++ [z], by rw [List.length_append]; exact hlt, by simp, HN.out⟩
              case measure => simp [intOf]; omega
            · have hle : p2 = l.length := by omega
              subst hle
              obtain ⟨pa, pc, rfl, hpc, _⟩ := r1.shape
              have HR := hid (And.intro r1 (And.intro r2 r3))
              clear r1 r2 r3 hl
              go_upto_region 28 with (fail)
              clear hlt
              obtain ⟨w1, hw1⟩ : ∃ w1, w1 = wr := ⟨_, rfl⟩
              subst hw1
              go_wp2
              go_loopw [12, 16] (fun nv i wr => ∃ l2 : List Int, l2.length ≤ q1 ∧ i = .int .i64 l2.length ∧ Ow wr nv l2 ∧ Grew w1 wr ∧ ∀ b, nv.ownBlock = some b → w1.heap.size ≤ b) (fun _ i _ => q1 - (intOf i).toNat)
              case atStart => exact ⟨[], by simp, rfl, Ow.nil _, Fr.refl _ _, by simp [Value.ownBlock]⟩
              case round =>
                obtain ⟨l2, hl2, rfl, r1, r2, r3⟩ := hrel
                by_cases hlt : l2.length < q1
                · obtain ⟨z, hz⟩ : ∃ z, wrap64 (k.tdiv 11) % 2 = z := ⟨_, rfl⟩
                  have hw2 := fun w => within11_any (wrap64 (k.tdiv 11)) 2 w (by omega) (by omega)
                  rw [hz] at hw2
                  obtain ⟨v', w2, happ, h2, h3, h4⟩ := mine_app r1 r2 r3 z (by omega)
                  have hle2 : l2.length ≤ 2 := by omega
                  obtain ⟨g, cap, rfl, hcap, hcm, hgl, hcl⟩ := h2.at (by simp)
                  have hl21 : (l2 ++ [z]).length = l2.length + 1 := by simp
                  have hci : w2.cell? ⟨g, l2.length, none⟩ = some (Kv z) := by have := (hcl l2.length (by omega)).1; simpa using this
                  have hfi := (hcl l2.length (by omega)).2
                  have hset := h2.set l2.length raw
                  have hlset : (l2 ++ [z]).set l2.length raw = l2 ++ [raw] := by simp
                  rw [hlset] at hset
                  have hg1 := h4 g rfl
                  have h5 : Grew w1 (w2.setCell ⟨g, l2.length, none⟩ (Kv raw)) := h3.setCell (p := ⟨g, l2.length, none⟩) (fun hq => by have : g < w1.heap.size := hq; omega) _
                  have HAPP := hid happ
                  have HN := hid (And.intro h2 (And.intro h3 h4))
                  have HS := hid (And.intro hset (And.intro h5 h4))
                  have hcap2 : l2.length + 1 ≤ cap := by omega
                  have h29 := fun w => within11_any k 29 w (by omega) (by omega)
                  rw [hl21] at HAPP HN
                  rw [show (l2 ++ [raw]).length = l2.length + 1 from by simp] at HS
                  clear happ h2 h3 h4 hcl hset hlset h5 r1 r2 r3 hT hW HR hz hcap hl21 hgl hg1
                  generalize k % 29 = r29 at *
                  have hT6 : (t1 != 6) = true ∨ (t1 != 6) = false := by cases (t1 != 6) <;> simp
                  rcases hT6 with hT6 | hT6
                  · go_wp2_with (first | (go_at_call_of 36 (Value.int .i64 2); refine (hw2 _).mono ?_; rintro e w' ⟨rfl, rfl⟩) | (at_builtin; refine wpList_app rfl rfl rfl rfl HAPP.out ?_) | (go_at_call_of 36 (Value.int .i64 29); refine (h29 _).mono ?_; rintro e w' ⟨rfl, rfl⟩))
                    go_roundw
                    case rel => exact ⟨l2 ++ [raw], by rw [List.length_append]; exact hlt, by simp, HS.out⟩
                    case measure => simp [intOf]; omega
                  · have h290 : (r29 == 0) = true ∨ (r29 == 0) = false := by cases (r29 == 0) <;> simp
                    rcases h290 with h290 | h290
                    · go_wp2_with (first | (go_at_call_of 36 (Value.int .i64 2); refine (hw2 _).mono ?_; rintro e w' ⟨rfl, rfl⟩) | (at_builtin; refine wpList_app rfl rfl rfl rfl HAPP.out ?_) | (go_at_call_of 36 (Value.int .i64 29); refine (h29 _).mono ?_; rintro e w' ⟨rfl, rfl⟩))
                      go_roundw
                      case rel => exact ⟨l2 ++ [raw], by rw [List.length_append]; exact hlt, by simp, HS.out⟩
                      case measure => simp [intOf]; omega
                    · go_wp2_with (first | (go_at_call_of 36 (Value.int .i64 2); refine (hw2 _).mono ?_; rintro e w' ⟨rfl, rfl⟩) | (at_builtin; refine wpList_app rfl rfl rfl rfl HAPP.out ?_) | (go_at_call_of 36 (Value.int .i64 29); refine (h29 _).mono ?_; rintro e w' ⟨rfl, rfl⟩))
                      go_roundw
                      case rel => exact ⟨l2 ++ [z], by rw [List.length_append]; exact hlt, by simp, HN.out⟩
                      case measure => simp [intOf]; omega
                · have hle : q1 = l2.length := by omega
                  subst hle
                  obtain ⟨na, nc, rfl, hnc, _⟩ := r1.shape
                  obtain ⟨f1, f2, hp, hx, hboth⟩ := hT.both
                  have gr : Grew w wr := HR.out.2.1.trans r2 (fun _ _ f => f)
                  have hpv := HR.out.1.kept r2 (fun _ _ f => f)
                  have hal := alloc_any (hp.grew gr) hW.fine t1 hpv r1
                  have hpf : ∀ g, (Value.slice pa l.length pc).ownBlock = some g → g ∉ f1 := fun g hg hm => by
                    have a1 := HR.out.2.2 g hg
                    have a2 := hp.lt g hm
                    omega
                  have hnf : ∀ g, (Value.slice na l2.length nc).ownBlock = some g → g ∉ f1 := fun g hg hm => by
                    have a1 := r3 g hg
                    have a2 := hp.lt g hm
                    have a3 := HR.out.2.1.size
                    omega
                  have HB := hid (And.intro hp (And.intro hx (And.intro hboth (And.intro gr (And.intro hpv (And.intro r1 (And.intro hpf hnf)))))))
                  have HW := hid (And.intro hT hW)
                  clear hp hx hboth gr hpv r1 r2 r3 hpf hnf HR hT hW hl2
                  go_upto_region 34 with (fail)
                  clear hlt
                  go_wp2_with fail
                  refine hal.mono ?_
                  intro e w3 hp3
                  obtain ⟨hp, hx, hboth, gr, hpv, r1, hpf, hnf⟩ := HB.out
                  obtain ⟨hT, hW⟩ := HW.out
                  unfold AllocPost at hp3
                  by_cases hok : A.AllocOk t1 l l2
                  · rw [if_pos hok] at hp3
                    obtain ⟨rfl, f1', k1, k2, k3⟩ := hp3
                    have hx3 := (hboth w3 w3 w3 (A.add t1 l l2) f1' k1 ((Grew.any gr).trans k2 (fun _ _ f => f)) (fun b hb => by
                      have := gr.size
                      rcases k3 b hb with e | e
                      · exact .inl e
                      · exact .inr (by omega)) (Fr.refl _ _)).1
                    have hxl := ralloc_any hx3 hW.fine t1 (hpv.kept k2 hpf) (r1.kept k2 hnf) (by omega) (by omega)
                    have HS := hid (fun w4 => (hboth w3 w3 w4 (A.add t1 l l2) f1' k1 ((Grew.any gr).trans k2 (fun _ _ f => f)) (fun b hb => by
                      have := gr.size
                      rcases k3 b hb with e | e
                      · exact .inl e
                      · exact .inr (by omega)) (Fr.refl _ _)).2)
                    have HOK := hid (And.intro hok (WF_add hW hok))
                    clear hp hx hboth gr hpv r1 hpf hnf hT hW hal hok HB HW k1 k2 k3 hx3
                    go_wp2_with fail
                    refine hxl.mono ?_
                    intro e w4 h4
                    unfold RAllocPost at h4
                    rw [if_pos HOK.out.1] at h4
                    obtain ⟨rfl, f2', j1, j2, j3⟩ := h4
                    have H4 := hid (show StepPost w hb xb A fp (.returned (.bool true)) w4 from ⟨rfl, _, HOK.out.2, rfl, HS.out w4 f2' j1 j2 j3⟩)
                    clear hxl j1 j2 j3
                    go_wp2
                    go_ret
                    exact H4.out
                  · rw [if_neg hok] at hp3
                    obtain ⟨rfl, q, rfl⟩ := hp3
                    have gq : Grew w (wr.drewN q) := gr.drewN q
                    have hxl := ralloc_any (hx.grew gq) hW.fine t1 (hpv.kept ((Fr.refl (fun _ => False) wr).drewN q) (fun _ _ f => f)) (r1.kept ((Fr.refl (fun _ => False) wr).drewN q) (fun _ _ f => f)) (by omega) (by omega)
                    have HS := hid (fun w4 (g : Grew (wr.drewN q) w4) => (show StepPost w hb xb A fp (.returned (.bool true)) w4 from ⟨rfl, A, hW, rfl, Went.same hT (gq.trans g (fun _ _ f => f))⟩))
                    have HOK := hid hok
                    clear hp hx hboth gr hpv r1 hpf hnf hT hW hal gq hok HB HW
                    go_wp2_with fail
                    refine hxl.mono ?_
                    intro e w4 h4
                    unfold RAllocPost at h4
                    rw [if_neg HOK.out] at h4
                    obtain ⟨rfl, g4⟩ := h4
                    have H4 := hid (HS.out w4 g4)
                    clear hxl g4
                    go_wp2
                    go_ret
                    exact H4.out
    · simp only [h9, decide_false]
      go_upto_if 121 with (fail)
      go_cut [121] from 122 to 124 (fun v wx => v = .bool (decide (m < 12)) ∧ wx = w)
      case first =>
        clear H
        go_wp2
        all_goals go_meet
        all_goals (refine ⟨?_, rfl⟩; go_light; simp only [beq_iff_eq, beq_eq_false_iff_ne, ne_eq] at *; congr 1; rw [Bool.eq_iff_iff]; simp only [beq_iff_eq, decide_eq_true_eq, true_iff]; omega)
      case rest =>
        obtain ⟨rfl, hw⟩ := hcut
        replace hw := hw.symm
        subst hw
        by_cases h12 : m < 12
        · simp only [h12, decide_true]
          obtain ⟨hT, hW⟩ := H.out
          obtain ⟨f1, f2, hp, hx, hboth⟩ := hT.both
          have HB := hid (And.intro hp (And.intro hx (And.intro hboth (And.intro hT hW))))
          clear hp hx hboth hT hW H
          go_wp2_with fail
          refine (pick_any HB.out.2.1 HB.out.2.2.2.2.fine.few _).mono ?_
          rintro e w1 ⟨rfl, g1⟩
          obtain ⟨z1, hz1⟩ : ∃ z1, A.pickV k = z1 := ⟨_, rfl⟩
          rw [hz1]
          have G1 := hid g1
          clear g1
          have c4 := Int.emod_nonneg (wrap64 (k.tdiv 7)) (show (4 : Int) ≠ 0 by omega)
          have c5 := Int.emod_lt_of_pos (wrap64 (k.tdiv 7)) (show (0 : Int) < 4 by omega)
          have h4 := fun w => within11_any (wrap64 (k.tdiv 7)) 4 w (by omega) (by omega)
          generalize wrap64 (k.tdiv 7) % 4 = r4 at *
          go_wp2_with fail
          refine (h4 _).mono ?_
          rintro e w' ⟨rfl, rfl⟩
          go_wp2_with fail
          refine (pick_any (HB.out.2.1.grew G1.out) HB.out.2.2.2.2.fine.few _).mono ?_
          rintro e w2 ⟨rfl, g2⟩
          obtain ⟨z2, hz2⟩ : ∃ z2, A.pickV (wrap64 (k.tdiv 5)) = z2 := ⟨_, rfl⟩
          rw [hz2]
          have G2 := hid (G1.out.trans g2 (fun _ _ f => f))
          clear g2 G1
          go_wp2_with fail
          refine (set_any (HB.out.1.grew G2.out) z1 (r4 - 1) z2 HB.out.2.2.2.2.shaped).mono ?_
          intro e w3 hp3
          unfold SetPost at hp3
          by_cases hok : A.SetOk z1 (r4 - 1) z2
          · rw [if_pos hok] at hp3
            obtain ⟨rfl, k1, k2⟩ := hp3
            obtain ⟨hp, hx, hboth, hT, hW⟩ := HB.out
            have kk := hboth w3 w3
            have hx3 := (hboth w3 w3 w3 (A.set z1 (r4 - 1) z2) f1 k1 ((Grew.any G2.out).trans k2 (fun _ _ f => f)) (fun b hb => .inl hb) (Fr.refl _ _)).1
            have HS := hid (fun w4 w5 (g : Grew w3 w4) => (hboth w3 w4 w5 (A.set z1 (r4 - 1) z2) f1 k1 ((Grew.any G2.out).trans k2 (fun _ _ f => f)) (fun b hb => .inl hb) g).2)
            have HX := hid hx3
            have HOK := hid (And.intro hok (And.intro (WF_set hW hok) hW))
            clear hp hx hboth hT hW hok k1 k2 hx3 HB kk G2
            go_wp2_with fail
            refine (pick_any HX.out HOK.out.2.2.fine.few _).mono ?_
            rintro e w4 ⟨rfl, g4⟩
            rw [hz1]
            have G4 := hid g4
            clear g4
            go_wp2_with fail
            refine (h4 _).mono ?_
            rintro e w' ⟨rfl, rfl⟩
            go_wp2_with fail
            refine (pick_any (HX.out.grew G4.out) HOK.out.2.2.fine.few _).mono ?_
            rintro e w5 ⟨rfl, g5⟩
            rw [hz2]
            have G5 := hid (G4.out.trans g5 (fun _ _ f => f))
            clear g5 G4
            go_wp2_with fail
            refine (rset_any (HX.out.grew G5.out) HOK.out.2.2.fine.few z1 (r4 - 1) z2 HOK.out.2.2.shaped).mono ?_
            intro e w6 hp6
            unfold RSetPost at hp6
            rw [if_pos HOK.out.1] at hp6
            obtain ⟨rfl, f2', j1, j2, j3⟩ := hp6
            have H6 := hid (show StepPost w hb xb A fp (.returned (.bool true)) w6 from ⟨rfl, _, HOK.out.2.1, rfl, HS.out w5 w6 G5.out f2' j1 j2 j3⟩)
            clear j1 j2 j3
            go_wp2
            go_ret
            exact H6.out
          · rw [if_neg hok] at hp3
            obtain ⟨rfl, rfl⟩ := hp3
            have HOK := hid hok
            clear hok
            go_wp2_with fail
            refine (pick_any (HB.out.2.1.grew G2.out) HB.out.2.2.2.2.fine.few _).mono ?_
            rintro e w4 ⟨rfl, g4⟩
            rw [hz1]
            have G4 := hid (G2.out.trans g4 (fun _ _ f => f))
            clear g4 G2
            go_wp2_with fail
            refine (h4 _).mono ?_
            rintro e w' ⟨rfl, rfl⟩
            go_wp2_with fail
            refine (pick_any (HB.out.2.1.grew G4.out) HB.out.2.2.2.2.fine.few _).mono ?_
            rintro e w5 ⟨rfl, g5⟩
            rw [hz2]
            have G5 := hid (G4.out.trans g5 (fun _ _ f => f))
            clear g5 G4
            go_wp2_with fail
            refine (rset_any (HB.out.2.1.grew G5.out) HB.out.2.2.2.2.fine.few z1 (r4 - 1) z2 HB.out.2.2.2.2.shaped).mono ?_
            intro e w6 hp6
            unfold RSetPost at hp6
            rw [if_neg HOK.out] at hp6
            obtain ⟨rfl, rfl⟩ := hp6
            have H6 := hid (show StepPost w hb xb A fp (.returned (.bool true)) w5 from ⟨rfl, A, HB.out.2.2.2.2, rfl, Went.same HB.out.2.2.2.1 G5.out⟩)
            go_wp2
            go_ret
            exact H6.out
        · simp only [h12, decide_false]
          go_upto_if 152 with (fail)
          go_cut [152] from 153 to 154 (fun v wx => v = .bool (decide (m < 14)) ∧ wx = w)
          case first =>
            clear H
            go_wp2
            all_goals go_meet
            all_goals (refine ⟨?_, rfl⟩; go_light; simp only [beq_iff_eq, beq_eq_false_iff_ne, ne_eq] at *; congr 1; rw [Bool.eq_iff_iff]; simp only [beq_iff_eq, decide_eq_true_eq, true_iff]; omega)
          case rest =>
            obtain ⟨rfl, hw⟩ := hcut
            replace hw := hw.symm
            subst hw
            obtain ⟨hT, hW⟩ := H.out
            obtain ⟨f1, f2, hp, hx, hboth⟩ := hT.both
            have HB := hid (And.intro hp (And.intro hx (And.intro hboth (And.intro hT hW))))
            clear hp hx hboth hT hW H
            by_cases h14 : m < 14
            · simp only [h14, decide_true]
              go_wp2_with fail
              refine (pick_any HB.out.2.1 HB.out.2.2.2.2.fine.few _).mono ?_
              rintro e w1 ⟨rfl, g1⟩
              obtain ⟨z1, hz1⟩ : ∃ z1, A.pickV k = z1 := ⟨_, rfl⟩
              rw [hz1]
              have G1 := hid g1
              clear g1
              go_wp2_with fail
              refine (pick_any (HB.out.2.1.grew G1.out) HB.out.2.2.2.2.fine.few _).mono ?_
              rintro e w2 ⟨rfl, g2⟩
              obtain ⟨z2, hz2⟩ : ∃ z2, A.pickV (wrap64 (k.tdiv 5)) = z2 := ⟨_, rfl⟩
              rw [hz2]
              have G2 := hid (G1.out.trans g2 (fun _ _ f => f))
              clear g2 G1
              go_wp2_with fail
              refine (over_any (HB.out.1.grew G2.out) z1 z2).mono ?_
              intro e w3 hp3
              unfold OverPost at hp3
              by_cases hok : A.OverOk z1 z2
              · rw [if_pos hok] at hp3
                obtain ⟨rfl, f1', k1, k2, k3⟩ := hp3
                obtain ⟨hp, hx, hboth, hT, hW⟩ := HB.out
                have k3' : ∀ b ∈ f1', b ∈ f1 ∨ w.heap.size ≤ b := fun b hb => by
                  have := G2.out.size
                  rcases k3 b hb with e | e
                  · exact .inl e
                  · exact .inr (by omega)
                have hx3 := (hboth w3 w3 w3 (A.over z1 z2) f1' k1 ((Grew.any G2.out).trans k2 (fun _ _ f => f)) k3' (Fr.refl _ _)).1
                have HS := hid (fun w4 w5 (g : Grew w3 w4) => (hboth w3 w4 w5 (A.over z1 z2) f1' k1 ((Grew.any G2.out).trans k2 (fun _ _ f => f)) k3' g).2)
                have HX := hid hx3
                have HOK := hid (And.intro hok (And.intro (WF_over hW hok) hW))
                clear hp hx hboth hT hW hok k1 k2 k3 k3' hx3 HB G2
                go_wp2_with fail
                refine (pick_any HX.out HOK.out.2.2.fine.few _).mono ?_
                rintro e w4 ⟨rfl, g4⟩
                rw [hz1]
                have G4 := hid g4
                clear g4
                go_wp2_with fail
                refine (pick_any (HX.out.grew G4.out) HOK.out.2.2.fine.few _).mono ?_
                rintro e w5 ⟨rfl, g5⟩
                rw [hz2]
                have G5 := hid (G4.out.trans g5 (fun _ _ f => f))
                clear g5 G4
                go_wp2_with fail
                refine (rover_any (HX.out.grew G5.out) HOK.out.2.2.fine.few z1 z2).mono ?_
                intro e w6 hp6
                unfold OverPost at hp6
                rw [if_pos HOK.out.1] at hp6
                obtain ⟨rfl, f2', j1, j2, j3⟩ := hp6
                have H6 := hid (show StepPost w hb xb A fp (.returned (.bool true)) w6 from ⟨rfl, _, HOK.out.2.1, rfl, HS.out w5 w6 G5.out f2' j1 j2 j3⟩)
                clear j1 j2 j3
                go_wp2
                go_ret
                exact H6.out
              · rw [if_neg hok] at hp3
                obtain ⟨rfl, rfl⟩ := hp3
                have HOK := hid hok
                clear hok
                go_wp2_with fail
                refine (pick_any (HB.out.2.1.grew G2.out) HB.out.2.2.2.2.fine.few _).mono ?_
                rintro e w4 ⟨rfl, g4⟩
                rw [hz1]
                have G4 := hid (G2.out.trans g4 (fun _ _ f => f))
                clear g4 G2
                go_wp2_with fail
                refine (pick_any (HB.out.2.1.grew G4.out) HB.out.2.2.2.2.fine.few _).mono ?_
                rintro e w5 ⟨rfl, g5⟩
                rw [hz2]
                have G5 := hid (G4.out.trans g5 (fun _ _ f => f))
                clear g5 G4
                go_wp2_with fail
                refine (rover_any (HB.out.2.1.grew G5.out) HB.out.2.2.2.2.fine.few z1 z2).mono ?_
                intro e w6 hp6
                unfold OverPost at hp6
                rw [if_neg HOK.out] at hp6
                obtain ⟨rfl, rfl⟩ := hp6
                have H6 := hid (show StepPost w hb xb A fp (.returned (.bool true)) w5 from ⟨rfl, A, HB.out.2.2.2.2, rfl, Went.same HB.out.2.2.2.1 G5.out⟩)
                go_wp2
                go_ret
                exact H6.out
            · simp only [h14, decide_false]
              go_wp2_with fail
              refine (pick_any HB.out.2.1 HB.out.2.2.2.2.fine.few _).mono ?_
              rintro e w1 ⟨rfl, g1⟩
              obtain ⟨z1, hz1⟩ : ∃ z1, A.pickV k = z1 := ⟨_, rfl⟩
              rw [hz1]
              have G1 := hid g1
              clear g1
              go_wp2_with fail
              refine (follow_any (HB.out.1.grew G1.out) HB.out.2.2.2.2.shaped HB.out.2.2.2.2.fine.few z1).mono ?_
              rintro e w' ⟨rfl, rfl⟩
              go_wp2_with fail
              refine (pick_any (HB.out.2.1.grew G1.out) HB.out.2.2.2.2.fine.few _).mono ?_
              rintro e w2 ⟨rfl, g2⟩
              rw [hz1]
              have G2 := hid (G1.out.trans g2 (fun _ _ f => f))
              clear g2 G1
              go_wp2_with fail
              refine (rfollow_any (HB.out.2.1.grew G2.out) HB.out.2.2.2.2.shaped HB.out.2.2.2.2.fine.few z1).mono ?_
              rintro e w' ⟨rfl, rfl⟩
              generalize A.follow z1 = fo
              have H6 := hid (show StepPost w hb xb A fp (.returned (.bool true)) w2 from ⟨rfl, A, HB.out.2.2.2.2, rfl, Went.same HB.out.2.2.2.1 G2.out⟩)
              have hfo : (fo == fo) = true := by simp
              go_wp2
              go_ret
              exact H6.out
end Go.Proofs.Ytjhdnbediipibaa
