import Derived.Test.YtddcfnjmppijjaaM7
/-! Make's walk: functions. -/
namespace Go.Proofs.Ytddcfnjmppijjaa
open Go.RowKit

/-- a term's fresh block -/
abbrev exB (kd : Int) : Obj := .cells #[.int .i64 kd, .string ⟨#[]⟩, .slice none 0 0, .slice none 0 0] 28
/-- the world when a term's block is laid -/
abbrev W7 (w : World) (k n : Int) (va : Value) (kd : Int) : World := ((w.alloc (rawB k n va)).alloc newB).alloc (exB kd)
theorem W7_grew (w : World) (k n : Int) (va : Value) (kd : Int) : Grew w (W7 w k n va kd) := (((Fr.refl _ _).alloc _).alloc _).alloc _
theorem W7_size (w : World) (k n : Int) (va : Value) (kd : Int) : (W7 w k n va kd).heap.size = w.heap.size + 3 := by simp
theorem W7_raw (w : World) (k n : Int) (va : Value) (kd : Int) : (W7 w k n va kd).heap[w.heap.size]? = some (rawB k n va) := by
  have h := ((((Fr.refl (fun _ => False) (w.alloc (rawB k n va))).alloc newB).alloc (exB kd))).get (heap_alloc_new w (rawB k n va)) (fun f => f)
  exact h
theorem W7_res (w : World) (k n : Int) (va : Value) (kd : Int) : (W7 w k n va kd).heap[w.heap.size + 1]? = some newB := heap_a3 _ _ _ _
theorem W7_box (w : World) (k n : Int) (va : Value) (kd : Int) : (W7 w k n va kd).heap[w.heap.size + 1 + 1]? = some (exB kd) := by
  have := heap_alloc_new ((w.alloc (rawB k n va)).alloc newB) (exB kd)
  simpa using this

/-- append([]string{}, scope...): the loop of names begins -/
theorem ls_init {w : World} {k n : Int} {va : Value} {kd : Int} {mb N : Nat} {vs : Value} {S : List Str} (hM : Mk w mb N) (hS : Nm w (fun b => b = mb) vs S) (hSl : S.length ≤ 900000) (ty : TypeId) :
    ∃ v8 wa, (Builtin.append_ #[25, 25] ty #[.slice (some ⟨w.heap.size + 1 + 1 + 1, 0, none⟩) 0 0, vs]).run Try.prog ((W7 w k n va kd).alloc (.cells #[] 9)) = .ok v8 wa ∧ (∃ a m c, v8 = .slice a m c) ∧ LS (W7 w k n va kd) mb N (w.heap.size + 1 + 1) kd S 0 v8 wa := by
  have hsz := W7_size w k n va kd
  have hgr := W7_grew w k n va kd
  have hbx := W7_box w k n va kd
  generalize W7 w k n va kd = W at *
  have hgW : Grew W (W.alloc (.cells #[] 9)) := (Fr.refl _ _).alloc _
  have h0 : Rt W.heap.size (W.alloc (.cells #[] 9)) (.slice (some ⟨w.heap.size + 1 + 1 + 1, 0, none⟩) 0 0) [] := by
    refine ⟨by simp, .inr ⟨w.heap.size + 1 + 1 + 1, 0, #[], rfl, by omega, ?_, Nat.le_refl _, by simp [maxLen], rfl, rfl⟩⟩
    rw [show w.heap.size + 1 + 1 + 1 = W.heap.size by omega]
    exact heap_alloc_new _ _
  obtain ⟨v8, wa, hr, hrt, hf, ho⟩ := app_rt h0 (by simp) ((hS.grew hgr).grew hgW) (by simp; omega) ty
  obtain ⟨a, c, e, -⟩ := hrt.shape
  have hf' : Grew W wa := hgW.trans hf (fun k hk e => by simp [Value.ownBlock] at e; omega)
  refine ⟨v8, wa, hr, ⟨a, _, c, e⟩, ⟨Grew.any hf', (hM.grew hgr).grew hf', .slice none 0 0, hf'.get hbx (fun f => f), World.ownsRow_nil _ _ _ _, by simpa [nms_zero] using hrt, fun g _ => by simp [Value.ownBlock]⟩⟩

/-- a part, with the names that are made -/
theorem LS.part {w w' W wr : World} {mb N b i : Nat} {kd : Int} {va v8 : Value} {l : List RT} {S : List Str} (hl : LS W mb N b kd S i v8 wr) (h : Parts w mb va l) (hF : Fr (fun b => b = mb) w w') (hg : Grew w' W) (hb0 : w'.heap.size ≤ b) (hmb : mb < w'.heap.size) (hi : i ≤ 2)
    (hN : N + 8 * (1 + nodesL l) ≤ 900000) (hSn : ∀ s ∈ S, Nme s) (hSl : S.length + 8 * (1 + nodesL l) ≤ 900000) (k n : Int) (j : Nat) (hj : j ≤ 100) :
    Calls Try.prog 56 #[.pointer (some ⟨mb, 0, none⟩), .agg #[Kv k, Kv n, va], .int .i64 j, v8] wr (MkPost wr mb (N + i) (S ++ nms N i) (pn l j)) := by
  have hp := pn_le l j
  have hs := hg.size
  obtain ⟨vN, -, -, h8, -⟩ := hl.ex
  refine part_any h k n (N + i) v8 (S ++ nms N i) j hj ((hF.trans (Grew.any (F := fun b => b = mb) hg) (fun _ _ e => e)).trans hl.keep (fun k hk e => ?_)) hl.cnt (by omega) ((nm_of_rt h8).mono (fun k _ e => by omega)) (fun s hs => ?_) (by rw [List.length_append, nms_length]; omega)
  · rcases e with e | e
    · exact e
    · have := hF.size; omega
  · rcases List.mem_append.1 hs with hs | hs
    · exact hSn s hs
    · exact nms_ok N i (by omega) s hs

set_option maxHeartbeats 4000000 in
set_option maxRecDepth 100000 in
theorem make_4 {w : World} {mb : Nat} {va : Value} {l : List RT} (h : Parts w mb va l) {w' : World} (k n : Int) (N : Nat) (vs : Value) (S : List Str) (kk : Nat) (hkk : kk = 4) (hp : W16 k kk)
    (hF : Fr (fun b => b = mb) w w') (hM : Mk w' mb N) (hN : N + 8 * (1 + nodesL l) ≤ 900000) (hS : Nm w' (fun b => b = mb) vs S) (hSn : ∀ s ∈ S, Nme s) (hSl : S.length + 8 * (1 + nodesL l) ≤ 900000) :
    Calls Try.prog 30 #[.pointer (some ⟨mb, 0, none⟩), .agg #[Kv k, Kv n, va], vs] w' (MkPost w' mb N S (8 * (1 + nodesL l))) := by
  obtain ⟨a1, c1, rfl, -⟩ := id h
  obtain ⟨v8, wa, hra, ⟨a8, m8, c8, rfl⟩, hls⟩ := ls_init (k := k) (n := n) (va := .slice a1 l.length c1) (kd := 6) hM hS (by omega) 25
  obtain ⟨a2, c2, rfl, -⟩ := hS.shape
  unfold W16 at hp
  have hml : mb < w'.heap.size := lt_of_get hM
  have HLS := hid hls
  have HRA := hid hra
  have HH := hid h
  have HF := hid hF
  have HSn := hid hSn
  have HNB := hid hN
  have HSL := hid hSl
  have w2 : ∀ a w, Calls Try.prog 38 #[.int .i64 a, .int .i64 2] w fun e w' => ∃ k : Nat, k < 2 ∧ e = .returned (Kv k) ∧ w = w' := fun a w => wn 2 (by omega) (by omega) a w
  clear h hF hM hN hS hSn hSl hls hra
  subst hkk
  go_enter Try.func30, Try.ntmps30
  go_wp2_with (first | (go_at_call 38; with_reducible refine (hp _).mono ?_; rintro e w1 ⟨rfl, rfl⟩; clear hp) | (at_builtin; refine wpList_app rfl rfl rfl rfl HRA.out ?_; clear HRA))
  go_loopw [8, 9] (fun v8 vi wr => ∃ i : Nat, i ≤ 2 ∧ vi = .int .i64 i ∧ (∃ a m c, v8 = .slice a m c) ∧ LS (W7 w' k n (.slice a1 l.length c1) 6) mb N (w'.heap.size + 1 + 1) 6 S i v8 wr) (fun _ vi _ => 2 - (intOf vi).toNat)
  case atStart => exact ⟨0, by omega, rfl, ⟨_, _, _, rfl⟩, HLS.out⟩
  case round =>
    obtain ⟨i, hi, rfl, ⟨a9, m9, c9, rfl⟩, hl⟩ := hrel
    have hraw := hl.keep.get (W7_raw w' k n (.slice a1 l.length c1) 6) (by omega)
    have r1 := cell_of_get hraw 1
    have r0 := cell_of_get hraw 0
    have r2 := cell_of_get hraw 2
    have HL := hid hl
    clear hl hraw
    go_wp2_with (first | (go_at_call 38; with_reducible refine (w2 _ _).mono ?_; rintro e w1 ⟨k2, hk2, rfl, rfl⟩) | (go_at_call 48; refine (name_any HL.out.cnt (by have := HNB.out; omega)).mono ?_; rintro e w3 ⟨he, hmk, hfn⟩; obtain ⟨s, hs⟩ : ∃ s, s = nam (N + i + 1) := ⟨_, rfl⟩; rw [← hs] at he; subst he; obtain ⟨vN, v1, w4, v2, w5, e1, hr1, hr2, e2, e3, ⟨aN, nN, cN, rfl⟩, ⟨aM, nM, cM, rfl⟩, ⟨aK, nK, cK, rfl⟩, hls'⟩ := HL.out.step (by simp) (by simp; omega) (by omega) (by have := HSL.out; omega) hfn hmk s hs 25 25; have HR1 := hid hr1; have HR2 := hid hr2; have HL2 := hid hls'; clear hr1 hr2 hls' hmk hfn hs) | (at_builtin; refine wpList_app rfl rfl rfl rfl HR1.out ?_; clear HR1) | (at_builtin; refine wpList_app rfl rfl rfl rfl HR2.out ?_; clear HR2) | (go_at_call 56; refine (HL.out.part HH.out HF.out (W7_grew _ _ _ _ _) (by omega) hml (by omega) HNB.out HSn.out HSL.out k n 0 (by omega)).mono ?_; rintro e w5 ⟨e', x, N', rfl, ⟨vx, vp, rfl, hnm, hrow⟩, hgd, hsz, hmk, hn1, hn2, hfr⟩; obtain ⟨an, cn, rfl, -⟩ := hnm.shape; obtain ⟨ax, cx, rfl, -⟩ := hrow.shape; obtain ⟨vN, hbx, hvN, -, -⟩ := HL.out.ex; obtain ⟨aN, cN, rfl, -⟩ := hvN.shape; have hb5 := hfr.get hbx (by omega); have hs5 := hfr.get (HL.out.keep.get (W7_res w' k n (.slice a1 l.length c1) 6) (by omega)) (by omega); have b0 := cell_of_get hb5 0; have b1 := cell_of_get hb5 1; have b2 := cell_of_get hb5 2; have b3 := cell_of_get hb5 3; have g3 := frozen_of_get hb5 3; have q0 := cell_of_get hs5 0; have q1 := cell_of_get hs5 1; have q2 := cell_of_get hs5 2; have q3 := cell_of_get hs5 3; have f0 := frozen_of_get hs5 0; have f1 := frozen_of_get hs5 1; have f2 := frozen_of_get hs5 2; have f3 := frozen_of_get hs5 3; have l1 := lt_of_get hb5; have l2 := lt_of_get hs5; have HB5 := hid hb5; have HS5 := hid hs5; have HNM := hid hnm; have HRW := hid hrow; have HGD := hid hgd; have HSZ := hid hsz; have HMK := hid hmk; have HN1 := hid hn1; have HN2 := hid hn2; have HFR := hid hfr; have HVN := hid hvN; clear hbx hb5 hs5 hnm hrow hgd hsz hmk hn1 hn2 hfr hvN))
    · go_roundw
      case rel => exact ⟨i + 1, by omega, by go_num, ⟨_, _, _, rfl⟩, HL2.out⟩
      case measure => simp [intOf]; omega
    · have hi1 : 1 ≤ i := by omega
      have hpl := pn_le l 0
      have h1 : (w5.setCell ⟨w'.heap.size + 1 + 1, 3, none⟩ (.slice (some ⟨w5.heap.size, 0, none⟩) 1 1)).heap[w'.heap.size + 1]? = some newB := ((Fr.refl (fun k => k = w'.heap.size + 1 + 1) w5).setCell (p := ⟨w'.heap.size + 1 + 1, 3, none⟩) (fun _ => rfl) _).get HS5.out (by omega)
      have h2 := fun o : Obj => ((Fr.refl (fun _ => False) _).alloc o).get (set4_heap h1 (Kv 6) (.string ⟨#[]⟩) (.slice aN (nms N i).length cN) (.slice (some ⟨w5.heap.size, 0, none⟩) 1 1)) (fun f => f)
      refine bodyPost_ret (res28 Try.results30 _ _ (w'.heap.size + 1) rfl (h2 _)) rfl ?_
      exact lam_done (W := W7 w' k n (.slice a1 l.length c1) 6) (b := w'.heap.size + 1 + 1) (r := w'.heap.size + 1) (c1 := pn l 0) (W7_grew _ _ _ _ _) (by omega) (by simp) (by omega) (by simp) hml HL.out HVN.out HFR.out HNM.out HRW.out HGD.out HSZ.out HMK.out HN1.out HN2.out hi1 hi (by omega) (by have := HNB.out; omega) _ _ _ _ _ _ rfl
set_option maxHeartbeats 4000000 in
set_option maxRecDepth 100000 in
theorem make_5 {w : World} {mb : Nat} {va : Value} {l : List RT} (h : Parts w mb va l) {w' : World} (k n : Int) (N : Nat) (vs : Value) (S : List Str) (kk : Nat) (hkk : kk = 5) (hp : W16 k kk)
    (hF : Fr (fun b => b = mb) w w') (hM : Mk w' mb N) (hN : N + 8 * (1 + nodesL l) ≤ 900000) (hS : Nm w' (fun b => b = mb) vs S) (hSn : ∀ s ∈ S, Nme s) (hSl : S.length + 8 * (1 + nodesL l) ≤ 900000) :
    Calls Try.prog 30 #[.pointer (some ⟨mb, 0, none⟩), .agg #[Kv k, Kv n, va], vs] w' (MkPost w' mb N S (8 * (1 + nodesL l))) := by
  obtain ⟨a1, c1, rfl, -⟩ := id h
  obtain ⟨v8, wa, hra, ⟨a8, m8, c8, rfl⟩, hls⟩ := ls_init (k := k) (n := n) (va := .slice a1 l.length c1) (kd := 6) hM hS (by omega) 25
  obtain ⟨a2, c2, rfl, -⟩ := hS.shape
  unfold W16 at hp
  have hml : mb < w'.heap.size := lt_of_get hM
  have HLS := hid hls
  have HRA := hid hra
  have HH := hid h
  have HF := hid hF
  have HSn := hid hSn
  have HNB := hid hN
  have HSL := hid hSl
  have w2 : ∀ a w, Calls Try.prog 38 #[.int .i64 a, .int .i64 2] w fun e w' => ∃ k : Nat, k < 2 ∧ e = .returned (Kv k) ∧ w = w' := fun a w => wn 2 (by omega) (by omega) a w
  clear h hF hM hN hS hSn hSl hls hra
  subst hkk
  go_enter Try.func30, Try.ntmps30
  go_wp2_with (first | (go_at_call 38; with_reducible refine (hp _).mono ?_; rintro e w1 ⟨rfl, rfl⟩; clear hp) | (at_builtin; refine wpList_app rfl rfl rfl rfl HRA.out ?_; clear HRA))
  go_loopw [8, 9] (fun v8 vi wr => ∃ i : Nat, i ≤ 2 ∧ vi = .int .i64 i ∧ (∃ a m c, v8 = .slice a m c) ∧ LS (W7 w' k n (.slice a1 l.length c1) 6) mb N (w'.heap.size + 1 + 1) 6 S i v8 wr) (fun _ vi _ => 2 - (intOf vi).toNat)
  case atStart => exact ⟨0, by omega, rfl, ⟨_, _, _, rfl⟩, HLS.out⟩
  case round =>
    obtain ⟨i, hi, rfl, ⟨a9, m9, c9, rfl⟩, hl⟩ := hrel
    have hraw := hl.keep.get (W7_raw w' k n (.slice a1 l.length c1) 6) (by omega)
    have r1 := cell_of_get hraw 1
    have r0 := cell_of_get hraw 0
    have r2 := cell_of_get hraw 2
    have HL := hid hl
    clear hl hraw
    go_wp2_with (first | (go_at_call 38; with_reducible refine (w2 _ _).mono ?_; rintro e w1 ⟨k2, hk2, rfl, rfl⟩) | (go_at_call 48; refine (name_any HL.out.cnt (by have := HNB.out; omega)).mono ?_; rintro e w3 ⟨he, hmk, hfn⟩; obtain ⟨s, hs⟩ : ∃ s, s = nam (N + i + 1) := ⟨_, rfl⟩; rw [← hs] at he; subst he; obtain ⟨vN, v1, w4, v2, w5, e1, hr1, hr2, e2, e3, ⟨aN, nN, cN, rfl⟩, ⟨aM, nM, cM, rfl⟩, ⟨aK, nK, cK, rfl⟩, hls'⟩ := HL.out.step (by simp) (by simp; omega) (by omega) (by have := HSL.out; omega) hfn hmk s hs 25 25; have HR1 := hid hr1; have HR2 := hid hr2; have HL2 := hid hls'; clear hr1 hr2 hls' hmk hfn hs) | (at_builtin; refine wpList_app rfl rfl rfl rfl HR1.out ?_; clear HR1) | (at_builtin; refine wpList_app rfl rfl rfl rfl HR2.out ?_; clear HR2) | (go_at_call 56; refine (HL.out.part HH.out HF.out (W7_grew _ _ _ _ _) (by omega) hml (by omega) HNB.out HSn.out HSL.out k n 0 (by omega)).mono ?_; rintro e w5 ⟨e', x, N', rfl, ⟨vx, vp, rfl, hnm, hrow⟩, hgd, hsz, hmk, hn1, hn2, hfr⟩; obtain ⟨an, cn, rfl, -⟩ := hnm.shape; obtain ⟨ax, cx, rfl, -⟩ := hrow.shape; obtain ⟨vN, hbx, hvN, -, -⟩ := HL.out.ex; obtain ⟨aN, cN, rfl, -⟩ := hvN.shape; have hb5 := hfr.get hbx (by omega); have hs5 := hfr.get (HL.out.keep.get (W7_res w' k n (.slice a1 l.length c1) 6) (by omega)) (by omega); have b0 := cell_of_get hb5 0; have b1 := cell_of_get hb5 1; have b2 := cell_of_get hb5 2; have b3 := cell_of_get hb5 3; have g3 := frozen_of_get hb5 3; have q0 := cell_of_get hs5 0; have q1 := cell_of_get hs5 1; have q2 := cell_of_get hs5 2; have q3 := cell_of_get hs5 3; have f0 := frozen_of_get hs5 0; have f1 := frozen_of_get hs5 1; have f2 := frozen_of_get hs5 2; have f3 := frozen_of_get hs5 3; have l1 := lt_of_get hb5; have l2 := lt_of_get hs5; have HB5 := hid hb5; have HS5 := hid hs5; have HNM := hid hnm; have HRW := hid hrow; have HGD := hid hgd; have HSZ := hid hsz; have HMK := hid hmk; have HN1 := hid hn1; have HN2 := hid hn2; have HFR := hid hfr; have HVN := hid hvN; clear hbx hb5 hs5 hnm hrow hgd hsz hmk hn1 hn2 hfr hvN))
    · go_roundw
      case rel => exact ⟨i + 1, by omega, by go_num, ⟨_, _, _, rfl⟩, HL2.out⟩
      case measure => simp [intOf]; omega
    · have hi1 : 1 ≤ i := by omega
      have hpl := pn_le l 0
      have h1 : (w5.setCell ⟨w'.heap.size + 1 + 1, 3, none⟩ (.slice (some ⟨w5.heap.size, 0, none⟩) 1 1)).heap[w'.heap.size + 1]? = some newB := ((Fr.refl (fun k => k = w'.heap.size + 1 + 1) w5).setCell (p := ⟨w'.heap.size + 1 + 1, 3, none⟩) (fun _ => rfl) _).get HS5.out (by omega)
      have h2 := fun o : Obj => ((Fr.refl (fun _ => False) _).alloc o).get (set4_heap h1 (Kv 6) (.string ⟨#[]⟩) (.slice aN (nms N i).length cN) (.slice (some ⟨w5.heap.size, 0, none⟩) 1 1)) (fun f => f)
      refine bodyPost_ret (res28 Try.results30 _ _ (w'.heap.size + 1) rfl (h2 _)) rfl ?_
      exact lam_done (W := W7 w' k n (.slice a1 l.length c1) 6) (b := w'.heap.size + 1 + 1) (r := w'.heap.size + 1) (c1 := pn l 0) (W7_grew _ _ _ _ _) (by omega) (by simp) (by omega) (by simp) hml HL.out HVN.out HFR.out HNM.out HRW.out HGD.out HSZ.out HMK.out HN1.out HN2.out hi1 hi (by omega) (by have := HNB.out; omega) _ _ _ _ _ _ rfl
end Go.Proofs.Ytddcfnjmppijjaa
