import Derived.Test.YtddcfnjmppijjaaM10
/-! Make's walk: lets. -/
namespace Go.Proofs.Ytddcfnjmppijjaa
open Go.RowKit

set_option maxHeartbeats 6000000 in
set_option maxRecDepth 100000 in
theorem make_10 {w : World} {mb : Nat} {va : Value} {l : List RT} (h : Parts w mb va l) {w' : World} (k n : Int) (N : Nat) (vs : Value) (S : List Str) (kk : Nat) (hkk : kk = 10) (hp : W16 k kk)
    (hF : Fr (fun b => b = mb) w w') (hM : Mk w' mb N) (hN : N + 8 * (1 + nodesL l) ≤ 900000) (hS : Nm w' (fun b => b = mb) vs S) (hSn : ∀ s ∈ S, Nme s) (hSl : S.length + 8 * (1 + nodesL l) ≤ 900000) :
    Calls Try.prog 30 #[.pointer (some ⟨mb, 0, none⟩), .agg #[Kv k, Kv n, va], vs] w' (MkPost w' mb N S (8 * (1 + nodesL l))) := by
  obtain ⟨a1, c1, rfl, -⟩ := id h
  obtain ⟨v8, wa, hra, ⟨a8, m8, c8, rfl⟩, hls⟩ := ls_init (k := k) (n := n) (va := .slice a1 l.length c1) (kd := 9) hM hS (by omega) 25
  obtain ⟨a2, c2, rfl, -⟩ := hS.shape
  unfold W16 at hp
  have hml : mb < w'.heap.size := lt_of_get hM
  have hraw0 := hls.keep.get (W7_raw w' k n (.slice a1 l.length c1) 9) (by omega)
  have z1 := cell_of_get hraw0 1
  have HLS := hid hls
  have HRA := hid hra
  have HH := hid h
  have HF := hid hF
  have HSn := hid hSn
  have HNB := hid hN
  have HSL := hid hSl
  have w2 : ∀ a w, Calls Try.prog 38 #[.int .i64 a, .int .i64 2] w fun e w' => ∃ k : Nat, k < 2 ∧ e = .returned (Kv k) ∧ w = w' := fun a w => wn 2 (by omega) (by omega) a w
  clear h hF hM hN hS hSn hSl hls hra hraw0
  subst hkk
  go_enter Try.func30, Try.ntmps30
  go_wp2_with (first | (go_at_call 38; with_reducible refine (hp _).mono ?_; rintro e w1 ⟨rfl, rfl⟩; clear hp) | (go_at_call 38; with_reducible refine (w2 _ _).mono ?_; rintro e w1 ⟨k2, hk2, rfl, rfl⟩; clear w2) | (at_builtin; refine wpList_app rfl rfl rfl rfl HRA.out ?_; clear HRA))
  go_loopw [14, 16] (fun v8 vi wr => ∃ i : Nat, i ≤ k2 + 1 ∧ vi = .int .i64 i ∧ (∃ a m c, v8 = .slice a m c) ∧ LS (W7 w' k n (.slice a1 l.length c1) 9) mb N (w'.heap.size + 1 + 1) 9 S i v8 wr) (fun _ vi _ => k2 + 1 - (intOf vi).toNat)
  case atStart => exact ⟨0, by omega, rfl, ⟨_, _, _, rfl⟩, HLS.out⟩
  case round =>
    obtain ⟨i, hi, rfl, ⟨aI, mI, cI, rfl⟩, hl⟩ := hrel
    by_cases hlt : i < k2 + 1
    · have HL := hid hl
      clear hl
      go_wp2_with (first | (go_at_call 48; refine (name_any HL.out.cnt (by have := HNB.out; omega)).mono ?_; rintro e w3 ⟨he, hmk, hfn⟩; obtain ⟨s, hs⟩ : ∃ s, s = nam (N + i + 1) := ⟨_, rfl⟩; rw [← hs] at he; subst he; obtain ⟨vN, v1, w4, v2, w5, e1, hr1, hr2, e2, e3, ⟨aN, nN, cN, rfl⟩, ⟨aM, nM, cM, rfl⟩, ⟨aK, nK, cK, rfl⟩, hls'⟩ := HL.out.step (by simp) (by simp; omega) (by omega) (by have := HSL.out; omega) hfn hmk s hs 25 25; have HR1 := hid hr1; have HR2 := hid hr2; have HL2 := hid hls'; clear hr1 hr2 hls' hmk hfn hs) | (at_builtin; refine wpList_app rfl rfl rfl rfl HR1.out ?_; clear HR1) | (at_builtin; refine wpList_app rfl rfl rfl rfl HR2.out ?_; clear HR2))
      go_roundw
      case rel => exact ⟨i + 1, by omega, by go_num, ⟨_, _, _, rfl⟩, HL2.out⟩
      case measure => simp [intOf]; omega
    · obtain rfl : i = k2 + 1 := by omega
      obtain ⟨wo, rfl⟩ : ∃ q : World, q = wr := ⟨_, rfl⟩
      obtain ⟨vN, hbx, hvN, hv8, -⟩ := hl.ex
      obtain ⟨aN, cN, rfl, -⟩ := hvN.shape
      have hraw := hl.keep.get (W7_raw w' k n (.slice a1 l.length c1) 9) (by omega)
      have hres := hl.keep.get (W7_res w' k n (.slice a1 l.length c1) 9) (by omega)
      have hwo := hl.keep.size
      have hfo : Fr (fun k => k = mb) w' wo := (Grew.any (F := fun k => k = mb) (W7_grew w' k n (.slice a1 l.length c1) 9)).trans hl.keep (fun k hk e => by rcases e with e | e <;> omega)
      have has0 : AS w' mb (N + (k2 + 1)) (w'.heap.size + 1 + 1) wo.heap.size wo 9 [] (.slice aN (nms N (k2 + 1)).length cN) k n (.slice a1 l.length c1) (S ++ nms N (k2 + 1)) l 0 (.slice none 0 0) [] wo :=
        ⟨hfo, ⟨_, hl.cnt, Nat.le_refl _, by omega⟩, hraw, hres, hbx, OX.nil _ _, rfl, fun x hx => by simp at hx, by simp [sizes], Nat.le_refl _, Fr.refl _ _, rfl⟩
      have hNm : Nm wo (fun k => k < w'.heap.size + 3) (.slice aN (nms N (k2 + 1)).length cN) (nms N (k2 + 1)) := (nm_of_rt hvN).mono (fun b _ e => by rw [W7_size]; exact e)
      have hSc : Nm wo (fun k => k < w'.heap.size + 3) (.slice aI mI cI) (S ++ nms N (k2 + 1)) := (nm_of_rt hv8).mono (fun b _ e => by rw [W7_size]; exact e)
      have hb3 : w'.heap.size + 3 ≤ wo.heap.size := by rw [W7_size] at hwo; exact hwo
      have HAS0 := hid has0
      have HNM := hid hNm
      have HSC := hid hSc
      clear hl hbx hvN hv8 hraw hres hwo hfo has0 hNm hSc hi hlt HLS
      go_wp2
      go_loopw [18] (fun vi wr => ∃ (j : Nat) (vA : Value) (xs : List X), j ≤ k2 + 2 ∧ vi = .int .i64 j ∧ AS w' mb (N + (k2 + 1)) (w'.heap.size + 1 + 1) wo.heap.size wo 9 [] (.slice aN (nms N (k2 + 1)).length cN) k n (.slice a1 l.length c1) (S ++ nms N (k2 + 1)) l j vA xs wr) (fun vi _ => k2 + 2 - (intOf vi).toNat)
      case atStart => exact ⟨0, _, _, by omega, rfl, HAS0.out⟩
      case round =>
        obtain ⟨j, vA, xs, hj, rfl, has⟩ := hrel
        obtain ⟨aA, cA, rfl, -⟩ := has.ox.shape
        have hwr := has.fr.size
        have hbase := has.base
        have r0 := cell_of_get has.raw 0
        have r1 := cell_of_get has.raw 1
        have r2 := cell_of_get has.raw 2
        have c0 := cell_of_get has.box 0
        have c1' := cell_of_get has.box 1
        have c2' := cell_of_get has.box 2
        have c3 := cell_of_get has.box 3
        have q0 := cell_of_get has.res 0
        have q1 := cell_of_get has.res 1
        have q2 := cell_of_get has.res 2
        have q3 := cell_of_get has.res 3
        have f0 := frozen_of_get has.res 0
        have f1 := frozen_of_get has.res 1
        have f2 := frozen_of_get has.res 2
        have f3 := frozen_of_get has.res 3
        obtain ⟨N1, hm1, hn1, hn2⟩ := has.cnt
        have hps := pns_le l j
        have HAS := hid has
        have HM1 := hid hm1
        by_cases hlt : j < k2 + 2
        · have hpn := pns_le l (j + 1)
          rw [pns_succ] at hpn
          have hsc2 : Nm wr (fun k => k < w'.heap.size + 3) (.slice aI mI cI) (S ++ nms N (k2 + 1)) := HSC.out.kept has.old (fun b e => by rcases e with e | e <;> omega)
          have HSC2 := hid hsc2
          have HPART := hid (fun (w2 : World) (hS : Fr (fun b => b = mb) wr w2) (hM2 : Mk w2 mb N1) => part_any HH.out k n N1 (.slice aI mI cI) (S ++ nms N (k2 + 1)) j (by omega) ((HF.out.trans has.fr (fun _ _ e => e)).trans hS (fun _ _ e => e)) hM2 (by have := HNB.out; omega) ((HSC2.out.kept hS (fun b e => by omega)).mono (fun b _ e => by omega)) (fun s hs => by rcases List.mem_append.1 hs with hs | hs; exact HSn.out s hs; exact nms_ok N _ (by have := HNB.out; omega) s hs) (by rw [List.length_append, nms_length]; have := HSL.out; omega))
          have HNS := hid (And.intro hn1 (And.intro hn2 (And.intro hpn hps)))
          have HJ := hid (show j ≤ 100 by omega)
          have HNO := hid (fun (b : Nat) (hb : b = w'.heap.size ∨ b = w'.heap.size + 1 + 1) => show ¬ (b = mb ∨ (Value.slice aA xs.length cA).ownBlock = some b) from fun e => by
            rcases e with e | e
            · omega
            · have := (HAS.out.ox.lt e).1; omega)
          clear has hm1 hn1 hn2 hpn hps hsc2
          go_wp2
          refine Rg.wp_region_factsJ 10 (Qs (P0 wr mb N1) (P6 wr mb N1 (pn l j) (S ++ nms N (k2 + 1))) (P7 wr mb N1 (pn l j) (S ++ nms N (k2 + 1))) (P8 w' mb (N + (k2 + 1)) (w'.heap.size + 1 + 1) wo.heap.size wo 9 [] (.slice aN (nms N (k2 + 1)).length cN) k n (.slice a1 l.length c1) (S ++ nms N (k2 + 1)) l j (.slice aA xs.length cA)) 208 6 7 8 175 176 177) (Fr (fun k => k = mb ∨ (Value.slice aA xs.length cA).ownBlock = some k)) [(169, Rg.Ex (.pointer (some ⟨w'.heap.size + 1 + 1, 3, none⟩))), (170, Rg.Ex (.slice aA xs.length cA)), (171, Rg.Ex (.pointer (some ⟨mb, 0, none⟩))), (172, Rg.Ex (.agg #[Kv k, Kv n, .slice a1 l.length c1])), (173, Rg.Ex (Kv j)), (174, Rg.Ex (.slice aI mI cI)), (175, FAny), (176, FAny), (177, FAny), (178, Rg.Ex (.pointer (some ⟨w'.heap.size + 1 + 1, 3, none⟩)))] (by kernel_rfl) (by kernel_rfl) (by rfl) (by rfl)
            (fun a => Fr.refl _ a) (fun a b c h k => h.trans k (fun _ _ f => f)) (Fr.refl _ _).drew
            (Rg.Stays.all ⟨Rg.Ex.stays _, Rg.Ex.stays _, Rg.Ex.stays _, Rg.Ex.stays _, Rg.Ex.stays _, Rg.Ex.stays _, fun _ _ _ _ _ => trivial, fun _ _ _ _ _ => trivial, fun _ _ _ _ _ => trivial, Rg.Ex.stays _, trivial⟩) ?_ ?_ ?_
          · go_light
            refine Rg.OpGoalsJ.cons ⟨rfl, ?_⟩ (Rg.OpGoalsJ.cons ⟨rfl, ?_⟩ (Rg.OpGoalsJ.cons ⟨rfl, ?_⟩ (Rg.OpGoalsJ.cons ⟨rfl, ?_⟩ (Rg.OpGoalsJ.cons ⟨rfl, ?_⟩ (Rg.OpGoalsJ.cons ⟨rfl, ?_⟩ (Rg.OpGoalsJ.cons ⟨rfl, ?_⟩ (Rg.OpGoalsJ.cons ⟨rfl, ?_⟩ (Rg.OpGoalsJ.cons ⟨rfl, ?_⟩ (Rg.OpGoalsJ.cons ⟨rfl, ?_⟩ Rg.OpGoalsJ.none)))))))))
            all_goals (intro listed a' w2 hmc hS hI hR; simp [Rg.Rd, Op.operands, Call.operands, Rg.Fk, Rg.Ex] at hR)
            all_goals (have hIo := fun i d v (h1 : i ≠ 6 ∧ i ≠ 7 ∧ i ≠ 8) (h2 : d ≠ 175 ∧ d ≠ 176 ∧ d ≠ 177) => hI.pure (i := i) (d := d) v h1 h2)
            all_goals (have c3' := hS.cell c3 (HNO.out _ (by simp)); have r0' := hS.cell r0 (HNO.out _ (by simp)); have r1' := hS.cell r1 (HNO.out _ (by simp)); have r2' := hS.cell r2 (HNO.out _ (by simp)))
            all_goals try (simp [Rg.Yields, execOp, Act.eval, hR, c3', r0', r1', r2', go_sem, Rg.Fk, Rg.Ex, FAny, Fr.refl]; exact hIo _ _ _ (by decide) (by decide))
            · have hno : listed.getD 6 false = false := hmc.not
              have hno7 : listed.getD 7 false = false := by
                  cases h : listed.getD 7 false with
                  | false => rfl
                  | true => have := hmc.closed 7 _ rfl h { on := 6, ground := .data } (by simp) rfl; rw [hno] at this; cases this
              have hno8 : listed.getD 8 false = false := by
                  cases h : listed.getD 8 false with
                  | false => rfl
                  | true => have := hmc.closed 8 _ rfl h { on := 7, ground := .data } (by simp) rfl; rw [hno7] at this; cases this
              have h0 := hI.i0 hno
              simp [Rg.Yields, Act.eval, hR, go_sem, Rg.Fk, Rg.Ex, FAny]
              refine (HPART.out w2 h0.1 h0.2).mono ?_
              intro e w3 hpost
              obtain ⟨v, rfl, h6, hf3⟩ := P6.of h0 hpost
              exact ⟨v, rfl, hf3.mono (fun _ _ e => .inl e), hI.call h6 (by rw [hmc.size]; decide) (by decide) hno7 hno8 (by decide)⟩
            · have h6l : listed.getD 6 false = true := hmc.own { on := 6, ground := .data } (by simp) rfl
              have hno7 : listed.getD 7 false = false := hmc.not
              have hno8 : listed.getD 8 false = false := by
                  cases h : listed.getD 8 false with
                  | false => rfl
                  | true => have := hmc.closed 8 _ rfl h { on := 7, ground := .data } (by simp) rfl; rw [hno7] at this; cases this
              obtain ⟨x, an, cn, ax, cx, e1, hx⟩ := hI.i6 h6l hno7
              rw [Array.getD_eq_getD_getElem?] at e1
              simp [Rg.Yields, execOp, Act.eval, e1, go_sem, Rg.Fk, Rg.Ex, FAny]
              exact ⟨Grew.any ((Fr.refl _ _).alloc _), hI.build ⟨x, _, _, w2, rfl, rfl, hx⟩ (by rw [hmc.size]; decide) (by decide) h6l hno8 (by decide)⟩
            · have h7l : listed.getD 7 false = true := hmc.own { on := 7, ground := .data } (by simp) rfl
              have h6l : listed.getD 6 false = true := hmc.closed 7 _ rfl h7l { on := 6, ground := .data } (by simp) rfl
              have hno8 : listed.getD 8 false = false := hmc.not
              obtain ⟨v1, w6, hrun, h8, hf8⟩ := P8.of HAS.out hml (by omega) (by omega) HJ.out HNS.out.1 HNS.out.2.1 (hI.i7 h7l hno8) 26
              refine Yields_app rfl ?_ rfl hrun ⟨fun d hd => by cases hd; simp [Rg.Fk, FAny], hf8, hI.app h8 (by rw [hmc.size]; decide) (by decide) h6l h7l (by decide)⟩
              show a'.tmps.getD 170 undef = _
              rw [Array.getD_eq_getD_getElem?]; first | exact hR.1 | exact hR
          · exact ⟨rfl, fun _ => ⟨(Fr.refl _ _).drew, HM1.out⟩, fun q => by simp at q, fun q => by simp at q, fun q => by simp at q⟩
          · rintro w5 hS _ rfl _ rfl _ rfl _ rfl _ rfl _ rfl v175 _ v176 _ v177 _ _ rfl hI
            have h8 := hI.i8 rfl
            have hsz := hI.sz
            rw [Rg.put_getD_ne _ (by simp), Rg.put_getD_eq _ (by rw [put_size', put_size'] at hsz; rw [hsz]; simp)] at h8
            obtain ⟨xs2, ⟨aV, nV, cV, rfl⟩, e3, f3', has2⟩ := h8
            have HAS2 := hid has2
            clear has2 hI hS hsz
            go_wp2_with (first | (at_builtin; refine wpList_app rfl rfl rfl rfl HRUN.out ?_; clear HRUN))
            go_roundw
            case rel => exact ⟨j + 1, by omega, by go_num, _, _, HAS2.out⟩
            case measure => simp [intOf]; omega
        · obtain rfl : j = k2 + 2 := by omega
          clear has
          go_wp2
          refine bodyPost_ret (res28 Try.results30 _ _ (w'.heap.size + 1) rfl (set4_heap HAS.out.res _ _ _ _)) rfl ?_
          have hl := HAS.out.len
          have hns : (nms N (k2 + 1)).length = k2 + 1 := nms_length _ _
          exact as_done (N := N) (c := 8 * (1 + nodesL l)) HAS.out hml ((HNM.out.kept HAS.out.old (fun b e => by rcases e with e | e <;> omega)).mono (fun b _ e => by omega)) (by omega) (.lets S (nms N (k2 + 1)) xs (fun e => by rw [e] at hns; simp at hns) (by omega) (nms_nodup _ _) (nms_ok _ _ (by have := HNB.out; omega)) (by omega) HAS.out.good) (by omega) (by omega) (by omega) _ _ _ _
end Go.Proofs.Ytddcfnjmppijjaa
