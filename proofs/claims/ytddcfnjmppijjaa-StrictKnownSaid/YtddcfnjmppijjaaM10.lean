import Derived.Test.YtddcfnjmppijjaaM9
/-! Make's walk: applications. -/
namespace Go.Proofs.Ytddcfnjmppijjaa
open Go.RowKit

theorem as_init {w : World} {k n : Int} {va : Value} {kd : Int} {mb N : Nat} {S' : List Str} {l : List RT} (hM : Mk w mb N) :
    AS w mb N (w.heap.size + 1 + 1) (w.heap.size + 3) (W7 w k n va kd) kd [] (.slice none 0 0) k n va S' l 0 (.slice none 0 0) [] (W7 w k n va kd) :=
  ⟨Grew.any (W7_grew _ _ _ _ _), ⟨N, hM.grew (W7_grew _ _ _ _ _), Nat.le_refl _, by omega⟩, W7_raw _ _ _ _ _, W7_res _ _ _ _ _, W7_box _ _ _ _ _, OX.nil _ _, rfl, fun x hx => by simp at hx, by simp [sizes], by rw [W7_size]; omega, Fr.refl _ _, W7_size _ _ _ _ _⟩

theorem as_done {w' Wo : World} {mb N N0 b B c : Nat} {kd : Int} {t : Str} {vN : Value} {k n : Int} {va : Value} {S S' ns : List Str} {l : List RT} {j : Nat} {vA : Value} {xs : List X} {wr : World}
    (h : AS w' mb N0 b B Wo kd t vN k n va S' l j vA xs wr) (hmb : mb < w'.heap.size) (hN : Nm wr (fun k => k < w'.heap.size + 2) vN ns) (hB : w'.heap.size + 2 ≤ B) (hgd : Good S (.mk kd t ns xs)) (hc : 1 + pns l j ≤ c) (h0 : N ≤ N0) (h1 : N0 + pns l j ≤ N + c) (u0 u1 u2 u3 : Value) :
    MkPost w' mb N S c (.returned (.agg #[Kv kd, St t, vN, vA])) (set4 wr (w'.heap.size + 1) u0 u1 u2 u3) := by
  obtain ⟨fr, ⟨N1, hm, hn0, hn1⟩, raw, res, box, ox, len, good, size, base, old, oldB⟩ := h
  have h4 := set4_fr wr (w'.heap.size + 1) u0 u1 u2 u3
  refine ⟨_, .mk kd t ns xs, N1, rfl, ⟨vN, vA, rfl, (hN.kept h4 (fun b e => by omega)).mono (fun b _ e => by omega), ((ox.rows.mono (E := fun k => k < w'.heap.size + 2) (fun b _ e => by omega)).kept h4 (fun b e => by omega)).mono (fun b _ e => by omega)⟩, hgd, ?_, h4.get hm (by omega), by omega, by omega, ?_⟩
  · simp only [X.size]; omega
  · exact fr.trans h4 (fun b hb e => by omega)

set_option maxHeartbeats 4000000 in
set_option maxRecDepth 100000 in
theorem make_6 {w : World} {mb : Nat} {va : Value} {l : List RT} (h : Parts w mb va l) {w' : World} (k n : Int) (N : Nat) (vs : Value) (S : List Str) (kk : Nat) (hkk : kk = 6) (hp : W16 k kk)
    (hF : Fr (fun b => b = mb) w w') (hM : Mk w' mb N) (hN : N + 8 * (1 + nodesL l) ≤ 900000) (hS : Nm w' (fun b => b = mb) vs S) (hSn : ∀ s ∈ S, Nme s) (hSl : S.length + 8 * (1 + nodesL l) ≤ 900000) :
    Calls Try.prog 30 #[.pointer (some ⟨mb, 0, none⟩), .agg #[Kv k, Kv n, va], vs] w' (MkPost w' mb N S (8 * (1 + nodesL l))) := by
  obtain ⟨a1, c1, rfl, -⟩ := id h
  have has := as_init (k := k) (n := n) (va := .slice a1 l.length c1) (kd := 7) (S' := S) (l := l) hM
  obtain ⟨a2, c2, rfl, -⟩ := hS.shape
  unfold W16 at hp
  have hml : mb < w'.heap.size := lt_of_get hM
  have HAS0 := hid has
  have HH := hid h
  have HF := hid hF
  have HSn := hid hSn
  have HNB := hid hN
  have HSL := hid hSl
  have HSS := hid hS
  have w2 : ∀ a w, Calls Try.prog 38 #[.int .i64 a, .int .i64 2] w fun e w' => ∃ k : Nat, k < 2 ∧ e = .returned (Kv k) ∧ w = w' := fun a w => wn 2 (by omega) (by omega) a w
  clear h hF hM hN hS hSn hSl has
  subst hkk
  go_enter Try.func30, Try.ntmps30
  go_wp2_with (first | (go_at_call 38; with_reducible refine (hp _).mono ?_; rintro e w1 ⟨rfl, rfl⟩; clear hp))
  go_loopw [12] (fun vi wr => ∃ (j : Nat) (vA : Value) (xs : List X), j ≤ 3 ∧ vi = .int .i64 j ∧ AS w' mb N (w'.heap.size + 1 + 1) (w'.heap.size + 3) (W7 w' k n (.slice a1 l.length c1) 7) 7 [] (.slice none 0 0) k n (.slice a1 l.length c1) S l j vA xs wr) (fun vi _ => 3 - (intOf vi).toNat)
  case atStart => exact ⟨0, _, _, by omega, rfl, HAS0.out⟩
  case round =>
    obtain ⟨j, vA, xs, hj, rfl, has⟩ := hrel
    obtain ⟨aA, cA, rfl, -⟩ := has.ox.shape
    have hwr := has.fr.size
    have r0 := cell_of_get has.raw 0
    have r1 := cell_of_get has.raw 1
    have r2 := cell_of_get has.raw 2
    have c0 := cell_of_get has.box 0
    have c1' := cell_of_get has.box 1
    have c2' := cell_of_get has.box 2
    have c3 := cell_of_get has.box 3
    obtain ⟨N1, hm1, hn1, hn2⟩ := has.cnt
    have hpn := pns_le l (j + 1)
    rw [pns_succ] at hpn
    have hps := pns_le l j
    have q0 := cell_of_get has.res 0
    have q1 := cell_of_get has.res 1
    have q2 := cell_of_get has.res 2
    have q3 := cell_of_get has.res 3
    have f0 := frozen_of_get has.res 0
    have f1 := frozen_of_get has.res 1
    have f2 := frozen_of_get has.res 2
    have f3 := frozen_of_get has.res 3
    have HPART := hid (fun (w2 : World) (hS : Fr (fun b => b = mb) wr w2) (hM2 : Mk w2 mb N1) (hb : j ≤ 2) => part_any HH.out k n N1 (.slice a2 S.length c2) S j (by omega) ((HF.out.trans has.fr (fun _ _ e => e)).trans hS (fun _ _ e => e)) hM2 (by have := HNB.out; omega) (HSS.out.kept (has.fr.trans hS (fun _ _ e => e)) (fun _ e => e)) HSn.out (by have := HSL.out; omega))
    have HAS := hid has
    have HM1 := hid hm1
    have HNS := hid (And.intro hn1 (And.intro hn2 (And.intro hpn hps)))
    clear has hm1 hn1 hn2 hpn hps
    go_wp2_with (first | (go_at_call 38; with_reducible refine (w2 _ _).mono ?_; rintro e w1 ⟨k2, hk2, rfl, rfl⟩))
    · have hj2 : j ≤ 2 := by omega
      replace HPART := hid (fun w2 hS hM2 => HPART.out w2 hS hM2 hj2)
      have HJ := hid (show j ≤ 100 by omega)
      have HNO := hid (fun (b : Nat) (hb : b = w'.heap.size ∨ b = w'.heap.size + 1 + 1) => show ¬ (b = mb ∨ (Value.slice aA xs.length cA).ownBlock = some b) from fun e => by
        rcases e with e | e
        · omega
        · have := (HAS.out.ox.lt e).1; omega)
      refine Rg.wp_region_factsJ 10 (Qs (P0 wr mb N1) (P6 wr mb N1 (pn l j) S) (P7 wr mb N1 (pn l j) S) (P8 w' mb N (w'.heap.size + 1 + 1) (w'.heap.size + 3) (W7 w' k n (.slice a1 l.length c1) 7) 7 [] (.slice none 0 0) k n (.slice a1 l.length c1) S l j (.slice aA xs.length cA)) 208 6 7 8 114 115 116) (Fr (fun k => k = mb ∨ (Value.slice aA xs.length cA).ownBlock = some k)) [(108, Rg.Ex (.pointer (some ⟨w'.heap.size + 1 + 1, 3, none⟩))), (109, Rg.Ex (.slice aA xs.length cA)), (110, Rg.Ex (.pointer (some ⟨mb, 0, none⟩))), (111, Rg.Ex (.agg #[Kv k, Kv n, .slice a1 l.length c1])), (112, Rg.Ex (Kv j)), (113, Rg.Ex (.slice a2 S.length c2)), (114, FAny), (115, FAny), (116, FAny), (117, Rg.Ex (.pointer (some ⟨w'.heap.size + 1 + 1, 3, none⟩)))] (by kernel_rfl) (by kernel_rfl) (by rfl) (by rfl)
        (fun a => Fr.refl _ a) (fun a b c h k => h.trans k (fun _ _ f => f)) (Fr.refl _ _).drew
        (Rg.Stays.all ⟨Rg.Ex.stays _, Rg.Ex.stays _, Rg.Ex.stays _, Rg.Ex.stays _, Rg.Ex.stays _, Rg.Ex.stays _, fun _ _ _ _ _ => trivial, fun _ _ _ _ _ => trivial, fun _ _ _ _ _ => trivial, Rg.Ex.stays _, trivial⟩) ?_ ?_ ?_
      · go_light
        refine Rg.OpGoalsJ.cons ⟨rfl, ?_⟩ (Rg.OpGoalsJ.cons ⟨rfl, ?_⟩ (Rg.OpGoalsJ.cons ⟨rfl, ?_⟩ (Rg.OpGoalsJ.cons ⟨rfl, ?_⟩ (Rg.OpGoalsJ.cons ⟨rfl, ?_⟩ (Rg.OpGoalsJ.cons ⟨rfl, ?_⟩ (Rg.OpGoalsJ.cons ⟨rfl, ?_⟩ (Rg.OpGoalsJ.cons ⟨rfl, ?_⟩ (Rg.OpGoalsJ.cons ⟨rfl, ?_⟩ (Rg.OpGoalsJ.cons ⟨rfl, ?_⟩ Rg.OpGoalsJ.none)))))))))
        all_goals (intro listed a' w2 hmc hS hI hR; simp [Rg.Rd, Op.operands, Call.operands, Rg.Fk, Rg.Ex] at hR)
        all_goals (have hIo := fun i d v (h1 : i ≠ 6 ∧ i ≠ 7 ∧ i ≠ 8) (h2 : d ≠ 114 ∧ d ≠ 115 ∧ d ≠ 116) => hI.pure (i := i) (d := d) v h1 h2)
        all_goals (have c3' := hS.cell c3 (HNO.out _ (by simp)); have r0' := hS.cell r0 (HNO.out _ (by simp)); have r1' := hS.cell r1 (HNO.out _ (by simp)); have r2' := hS.cell r2 (HNO.out _ (by simp)))
        all_goals try (simp [Rg.Yields, execOp, Act.eval, hR, c3', r0', r1', r2', go_sem, Rg.Fk, Rg.Ex, FAny, Fr.refl]; exact hIo _ _ _ (by decide) (by decide))
        · have hno : listed.getD 6 false = false := hmc.not
          have hno7 : listed.getD 7 false = false := by
              cases h : listed.getD 7 false with
              | false => rfl
              | true => have := hmc.closed 7 _ rfl h { on := 6, ground := .data } (by simp) rfl; rw [hno] at this; cases this
          have hno8 : listed.getD 8 false = false := by
              cases h : listed.getD 8 false with
              | false => rfl
              | true => have := hmc.closed 8 _ rfl h { on := 7, ground := .data } (by simp) rfl; rw [hno7] at this; cases this
          have h0 := hI.i0 hno
          simp [Rg.Yields, Act.eval, hR, go_sem, Rg.Fk, Rg.Ex, FAny]
          refine (HPART.out w2 h0.1 h0.2).mono ?_
          intro e w3 hpost
          obtain ⟨v, rfl, h6, hf3⟩ := P6.of h0 hpost
          exact ⟨v, rfl, hf3.mono (fun _ _ e => .inl e), hI.call h6 (by rw [hmc.size]; decide) (by decide) hno7 hno8 (by decide)⟩
        · have h6l : listed.getD 6 false = true := hmc.own { on := 6, ground := .data } (by simp) rfl
          have hno7 : listed.getD 7 false = false := hmc.not
          have hno8 : listed.getD 8 false = false := by
              cases h : listed.getD 8 false with
              | false => rfl
              | true => have := hmc.closed 8 _ rfl h { on := 7, ground := .data } (by simp) rfl; rw [hno7] at this; cases this
          obtain ⟨x, an, cn, ax, cx, e1, hx⟩ := hI.i6 h6l hno7
          rw [Array.getD_eq_getD_getElem?] at e1
          simp [Rg.Yields, execOp, Act.eval, e1, go_sem, Rg.Fk, Rg.Ex, FAny]
          exact ⟨Grew.any ((Fr.refl _ _).alloc _), hI.build ⟨x, _, _, w2, rfl, rfl, hx⟩ (by rw [hmc.size]; decide) (by decide) h6l hno8 (by decide)⟩
        · have h7l : listed.getD 7 false = true := hmc.own { on := 7, ground := .data } (by simp) rfl
          have h6l : listed.getD 6 false = true := hmc.closed 7 _ rfl h7l { on := 6, ground := .data } (by simp) rfl
          have hno8 : listed.getD 8 false = false := hmc.not
          obtain ⟨v1, w6, hrun, h8, hf8⟩ := P8.of HAS.out hml (by omega) (by omega) HJ.out HNS.out.1 HNS.out.2.1 (hI.i7 h7l hno8) 26
          refine Yields_app rfl ?_ rfl hrun ⟨fun d hd => by cases hd; simp [Rg.Fk, FAny], hf8, hI.app h8 (by rw [hmc.size]; decide) (by decide) h6l h7l (by decide)⟩
          show a'.tmps.getD 109 undef = _
          rw [Array.getD_eq_getD_getElem?]; first | exact hR.1 | exact hR
      · exact ⟨rfl, fun _ => ⟨(Fr.refl _ _).drew, HM1.out⟩, fun q => by simp at q, fun q => by simp at q, fun q => by simp at q⟩
      · rintro w5 hS _ rfl _ rfl _ rfl _ rfl _ rfl _ rfl v114 _ v115 _ v116 _ _ rfl hI
        have h8 := hI.i8 rfl
        have hsz := hI.sz
        rw [Rg.put_getD_ne _ (by simp), Rg.put_getD_eq _ (by rw [put_size', put_size'] at hsz; rw [hsz]; simp)] at h8
        obtain ⟨xs2, ⟨aV, nV, cV, rfl⟩, e3, f3', has2⟩ := h8
        have HAS2 := hid has2
        clear has2 hI hS hsz
        go_wp2_with (first | (at_builtin; refine wpList_app rfl rfl rfl rfl HRUN.out ?_; clear HRUN))
        go_roundw
        case rel => exact ⟨j + 1, .slice aV nV cV, xs2, by omega, by go_num, HAS2.out⟩
        case measure => simp [intOf]; omega
    · have hj2 : 2 ≤ j := by omega
      obtain ⟨hn1, hn2, -, hps⟩ := HNS.out
      have hl := HAS.out.len
      refine bodyPost_ret (res28 Try.results30 _ _ (w'.heap.size + 1) rfl (set4_heap HAS.out.res _ _ _ _)) rfl ?_
      exact as_done HAS.out hml ⟨none, 0, rfl, Nat.le_refl _, by simp [maxLen], .inl rfl⟩ (by omega) (.app S xs (by omega) (by omega) HAS.out.good) (by omega) (Nat.le_refl _) (by omega) _ _ _ _
end Go.Proofs.Ytddcfnjmppijjaa
