import Derived.Test.YtddcfnjmppijjaaN8
/-! thunkref5.Copy's walk. -/
namespace Go.Proofs.Ytddcfnjmppijjaa
open Go.RowKit

theorem copy_done {w' W0 W1 wr : World} {b : Nat} {k : Int} {t : Str} {ns : List Str} {l : List X} {vN vA : Value} (hs0 : W0.heap.size = w'.heap.size + 2) (hF : Fr (fun k => W0.heap.size ≤ k) W0 W1) (hrt : Rt W0.heap.size W1 vN ns) (hsep : ∀ g, vN.ownBlock = some g → g ≠ b)
    (h : SC W1 b k t vN vA l wr) (hg : Grew w' wr) (u0 u1 u2 u3 : Value) : CpPost w' (.mk k t ns l) (.returned (.agg #[Kv k, St t, vN, vA])) (set4 wr (w'.heap.size + 1) u0 u1 u2 u3) := by
  have h4 := set4_fr wr (w'.heap.size + 1) u0 u1 u2 u3
  have hs1 := hF.size
  have hn := nm_of_rt (rt_kept hrt h.keep hsep)
  have hr := h.ox.rows
  refine ⟨_, rfl, ⟨vN, vA, rfl, (hn.kept h4 (fun k e => by omega)).mono (fun k _ e => by omega), (hr.kept h4 (fun k e => by omega)).mono (fun k _ e => by omega)⟩, ?_⟩
  refine ⟨Fr.trans hg h4 (fun k hk e => by omega), vN, vA, W1.heap.size, rfl, by omega, ?_, fun g hg => (hrt.lt g hg).2, h.ox.kept h4 (fun k e => by omega), by have := h.keep.size; have := h4.size; omega⟩
  exact ownsRow_le' (rt_kept (rt_kept hrt h.keep hsep) h4 (fun g hg e => by have := (hrt.lt g hg).1; omega)) (by omega)

set_option maxHeartbeats 8000000 in
set_option maxRecDepth 100000 in
theorem copy_core {w : World} {D : Nat → Prop} {av : Option Addr} {l : List X} {cap : Nat}
    (H : l ≠ [] → ∃ g o, av = some ⟨g, o, none⟩ ∧ ∀ i x, l[i]? = some x → ∃ an cn aa ca, El w D g (o + i * 4) x an cn aa ca ∧ CopyAt w D (.slice aa x.parts.length ca) x.parts) : CopyAt w D (.slice av l.length cap) l := by
  · intro hs hl w' hw k t vn ns hns hnl
    obtain ⟨an, cn, rfl, -⟩ := hns.shape
    obtain ⟨W0, hW0⟩ : ∃ q : World, q = (w'.alloc (.cells #[Kv k, St t, .slice an ns.length cn, .slice av l.length cap] 28)).alloc newB := ⟨_, rfl⟩
    have hg0 : Grew w' W0 := by rw [hW0]; exact ((Fr.refl _ _).alloc _).alloc _
    have hs0 : W0.heap.size = w'.heap.size + 2 := by rw [hW0]; simp
    have hbx : W0.heap[w'.heap.size]? = some (.cells #[Kv k, St t, .slice an ns.length cn, .slice av l.length cap] 28) := by rw [hW0]; exact ((Fr.refl (fun _ => False) _).alloc _).get (heap_alloc_new _ _) (fun f => f)
    have b0 : W0.cell? ⟨w'.heap.size, 0, none⟩ = some (Kv k) := cell_of_get hbx 0
    have b1 : W0.cell? ⟨w'.heap.size, 1, none⟩ = some (St t) := cell_of_get hbx 1
    have b2 : W0.cell? ⟨w'.heap.size, 2, none⟩ = some (.slice an ns.length cn) := cell_of_get hbx 2
    have HRES := hid (show W0.heap[w'.heap.size + 1]? = some newB by rw [hW0]; exact heap_a2 _ _ _)
    have HNO := hid (show ¬ W0.heap.size ≤ w'.heap.size by omega)
    have HNS := hid (fun (W : World) (hf : Fr (fun k => W0.heap.size ≤ k) W0 W) => ((hns.grew (hw.trans hg0 (fun _ _ f => f))).mono (E := fun k => W0.heap.size ≤ k) (fun b hb e => by omega)).kept hf (fun b e => e))
    have HNL := hid hnl
    have HW := hid hw
    have HH := hid H
    have HS := hid hs
    have HG0 := hid hg0
    have HBX := hid hbx
    clear hns hw H hs hg0 hbx hnl
    go_enter Try.func57, Try.ntmps57
    go_wp2
    rw [← hW0]
    clear hW0
    refine Rg.wp_region_factsJ 10 (QC W0.heap.size k t ns) (Fr (fun k => W0.heap.size ≤ k)) [(5, Rg.Ex (.pointer (some ⟨w'.heap.size, 0, none⟩))), (6, Rg.Ex (Kv k)), (7, Rg.Ex (.pointer (some ⟨w'.heap.size, 1, none⟩))), (8, Rg.Ex (St t)), (9, FAny), (10, Rg.Ex (.pointer (some ⟨w'.heap.size, 2, none⟩))), (11, Rg.Ex (.slice an ns.length cn)), (12, FAny), (13, FAny), (3, FAny)] (by kernel_rfl) (by kernel_rfl) (by rfl) (by rfl)
      (fun a => Fr.refl _ a) (fun a b c h k => h.trans k (fun _ _ f => f)) (Fr.refl _ _).drew
      (Rg.Stays.all ⟨Rg.Ex.stays _, Rg.Ex.stays _, Rg.Ex.stays _, Rg.Ex.stays _, fun _ _ _ _ _ => trivial, Rg.Ex.stays _, Rg.Ex.stays _, fun _ _ _ _ _ => trivial, fun _ _ _ _ _ => trivial, fun _ _ _ _ _ => trivial, trivial⟩) ?_ ?_ ?_
    · go_light
      refine Rg.OpGoalsJ.cons ⟨rfl, ?_⟩ (Rg.OpGoalsJ.cons ⟨rfl, ?_⟩ (Rg.OpGoalsJ.cons ⟨rfl, ?_⟩ (Rg.OpGoalsJ.cons ⟨rfl, ?_⟩ (Rg.OpGoalsJ.cons ⟨rfl, ?_⟩ (Rg.OpGoalsJ.cons ⟨rfl, ?_⟩ (Rg.OpGoalsJ.cons ⟨rfl, ?_⟩ (Rg.OpGoalsJ.cons ⟨rfl, ?_⟩ (Rg.OpGoalsJ.cons ⟨rfl, ?_⟩ (Rg.OpGoalsJ.cons ⟨rfl, ?_⟩ Rg.OpGoalsJ.none)))))))))
      all_goals (intro listed a' w2 hmc hS hI hR; simp [Rg.Rd, Op.operands, Call.operands, Rg.Fk, Rg.Ex] at hR)
      all_goals (have hIo := fun i d v (h1 : i ≠ 4 ∧ i ≠ 7 ∧ i ≠ 8 ∧ i ≠ 9) (h2 : d ≠ 9 ∧ d ≠ 12 ∧ d ≠ 13 ∧ d ≠ 3) => hI.pure (i := i) (d := d) v h1 h2)
      all_goals (have b0' := hS.cell b0 HNO.out; have b1' := hS.cell b1 HNO.out; have b2' := hS.cell b2 HNO.out)
      all_goals try (simp [Rg.Yields, execOp, Act.eval, hR, b0', b1', b2', go_sem, Rg.Fk, Rg.Ex, FAny, Fr.refl]; exact hIo _ _ _ (by decide) (by decide))
      · have hno : listed.getD 4 false = false := hmc.not
        have hno7 : listed.getD 7 false = false := by
          cases h : listed.getD 7 false with
          | false => rfl
          | true => have := hmc.closed 7 _ rfl h { on := 4, ground := .data } (by simp) rfl; rw [hno] at this; cases this
        have hno8 : listed.getD 8 false = false := by
          cases h : listed.getD 8 false with
          | false => rfl
          | true => have := hmc.closed 8 _ rfl h { on := 7, ground := .data } (by simp) rfl; rw [hno7] at this; cases this
        simp [Rg.Yields, execOp, Act.eval, go_sem, Rg.Fk, Rg.Ex, FAny]
        exact ⟨Grew.any ((Fr.refl _ _).alloc _), hI.empty (by rw [hmc.size]; decide) hno7 hno8⟩
      · have h4 : listed.getD 4 false = true := hmc.own { on := 4, ground := .data } (by simp) rfl
        have hno7 : listed.getD 7 false = false := hmc.not
        have hno8 : listed.getD 8 false = false := by
          cases h : listed.getD 8 false with
          | false => rfl
          | true => have := hmc.closed 8 _ rfl h { on := 7, ground := .data } (by simp) rfl; rw [hno7] at this; cases this
        obtain ⟨g9, v1, w6, e9, hrun, -, hf6, hI6⟩ := hI.app (by rw [hmc.size]; decide) h4 hno7 hno8 (HNS.out w2 hS) HNL.out 25
        refine Yields_app rfl (v := .slice (some ⟨g9, 0, none⟩) 0 0) (u := .slice an ns.length cn) ?_ ?_ hrun ⟨fun d hd => by cases hd; simp [Rg.Fk, FAny], hf6, hI6⟩
        · show a'.tmps.getD 9 undef = _
          exact e9
        · simp [Act.eval, hR]
      · have h7 : listed.getD 7 false = true := hmc.own { on := 7, ground := .data } (by simp) rfl
        have hb := hI.build (by rw [hmc.size]; decide)
        obtain ⟨aN, cN, e12, -⟩ := (hI.i7 h7).1.shape
        rw [e12] at hb
        rw [Array.getD_eq_getD_getElem?] at e12
        simp [Rg.Yields, execOp, Act.eval, hR, e12, go_sem, Rg.Fk, Rg.Ex, FAny]
        exact ⟨Fr.refl _ _, hb⟩
      · simp [Rg.Yields, execOp, go_sem, Rg.Fk, Rg.Ex, FAny]
        exact ⟨Grew.any ((Fr.refl _ _).alloc _), hI.block (by rw [hmc.size]; decide)⟩
    · exact ⟨rfl, Nat.le_refl _, fun q => by simp at q, fun q => by simp at q, fun q => by simp at q, fun q => by simp at q⟩
    · rintro w5 hS _ rfl _ rfl _ rfl _ rfl v9 _ _ rfl _ rfl v12 _ v13 _ v3 _ hI
      have hsz := hI.sz
      have h3 := hI.i9 rfl
      have h13 := hI.i8 rfl
      have h12 := hI.i7 rfl
      simp only [put_size'] at hsz
      rw [Rg.put_getD_eq _ (by simp only [put_size']; rw [hsz]; simp)] at h3
      rw [Rg.put_getD_ne _ (by simp), Rg.put_getD_eq _ (by simp only [put_size']; rw [hsz]; simp), Rg.put_getD_ne _ (by simp), Rg.put_getD_ne _ (by simp), Rg.put_getD_eq _ (by simp only [put_size']; rw [hsz]; simp)] at h13
      rw [Rg.put_getD_eq _ (by simp only [put_size']; rw [hsz]; simp), Rg.put_getD_ne _ (by simp), Rg.put_getD_ne _ (by simp), Rg.put_getD_eq _ (by simp only [put_size']; rw [hsz]; simp)] at h12
      obtain ⟨b, rfl, hbB, hbx⟩ := h3
      obtain ⟨hrt, hsep⟩ := h12
      obtain ⟨aN, cN, rfl, -⟩ := hrt.shape
      subst h13
      have f0 := frozen_of_get hbx 0
      have f1 := frozen_of_get hbx 1
      have f2 := frozen_of_get hbx 2
      have f3 := frozen_of_get hbx 3
      have q0 := cell_of_get hbx 0
      have q1 := cell_of_get hbx 1
      have q2 := cell_of_get hbx 2
      have q3 := cell_of_get hbx 3
      obtain ⟨W1, hW1⟩ : ∃ q : World, q = set4 w5 b (Kv k) (St t) (.slice aN ns.length cN) (.slice none 0 0) := ⟨_, rfl⟩
      have hset : Fr (fun k => k = b) w5 W1 := by rw [hW1]; exact set4_fr _ _ _ _ _ _
      have hF01 : Fr (fun k => W0.heap.size ≤ k) W0 W1 := Fr.trans hS hset (fun i hi e => by omega)
      have hb1 : W1.heap[b]? = some (.cells #[Kv k, St t, .slice aN ns.length cN, .slice none 0 0] 28 (0, 0)) := by rw [hW1]; exact set4_heap hbx _ _ _ _
      have hbl : b < W1.heap.size := lt_of_get hb1
      have HRT := hid (rt_kept hrt hset (fun g hg e => hsep rfl g hg (by rw [e])))
      have HSC0 := hid (show SC W1 b k t (.slice aN ns.length cN) (.slice none 0 0) [] W1 from ⟨Fr.refl _ _, hb1, OX.nil _ _⟩)
      have HF01 := hid hF01
      have hs1 := hF01.size
      have HWE := hid hW1
      have HSEP := hid (show ∀ g, (Value.slice aN ns.length cN).ownBlock = some g → g ≠ b from fun g hg e => hsep rfl g hg (by rw [e]))
      clear hrt hsep hS hI hbx hset hF01 hb1 hW1 hsz
      go_wp2
      go_loopw [4] (fun b4 wr => ∃ (j : Nat) (vA : Value), j ≤ l.length ∧ b4 = .int .i64 j ∧ (∃ a m c, vA = .slice a m c) ∧ SC W1 b k t (.slice aN ns.length cN) vA (l.take j) wr) (fun b4 _ => l.length - (intOf b4).toNat)
      case atStart => exact ⟨0, _, Nat.zero_le _, rfl, ⟨_, _, _, rfl⟩, by
        show SC W1 b k t _ _ _ (set4 w5 b (Kv k) (St t) (.slice aN ns.length cN) (.slice none 0 0))
        rw [← HWE.out]; exact HSC0.out⟩
      case round =>
        obtain ⟨j, vA, hj, rfl, ⟨aA, mA, cA, rfl⟩, hsc⟩ := hrel
        have hW0r : Fr (fun k => W0.heap.size ≤ k) W0 wr := HF01.out.trans hsc.keep (fun i hi e => by omega)
        have hw'r : Grew w' wr := HG0.out.trans hW0r (fun i hi e => by omega)
        have hwr : Grew w wr := HW.out.trans hw'r (fun _ _ f => f)
        have p3 : wr.cell? ⟨w'.heap.size, 3, none⟩ = some (.slice av l.length cap) := hW0r.cell (cell_of_get HBX.out 3) (by simp; omega)
        have HGW := hid hw'r
        by_cases hlt : j < l.length
        · obtain ⟨x, hx⟩ := at_of_lt hlt
          obtain ⟨g, o, rfl, hel⟩ := HH.out (fun e => by rw [e] at hlt; simp at hlt)
          obtain ⟨an', cn', aa', ca', he, hc⟩ := hel j x hx
          clear hel
          have hgl : g < w'.heap.size := Nat.lt_of_lt_of_le (World.block_lt_of_cell? w _ he.c0) HW.out.size
          have c0 := hwr.cell he.c0 (fun f => f)
          have c1 := hwr.cell he.c1 (fun f => f)
          have c2 := hwr.cell he.c2 (fun f => f)
          have c3 := hwr.cell he.c3 (fun f => f)
          have e3 := cell_of_get hsc.box 3
          have HCALL := hid (fun w2 (h0 : Grew wr w2) => copy_step he hc (HS.out x (List.mem_of_getElem? hx)) w2 (hwr.trans h0 (fun _ _ f => f)))
          have HNO2 := hid (show ∀ kx, kx < W1.heap.size → ¬ (Value.slice aA mA cA).ownBlock = some kx from fun kx hk e => by have := (hsc.ox.lt e).1; omega)
          have HSC := hid hsc
          have HTK := hid (show l.take j ++ [x] = l.take (j + 1) by rw [List.take_add_one, hx]; rfl)
          clear hsc he hc hwr hw'r hW0r hx
          go_wp2
          refine Rg.wp_region_factsJ 11 (Qs (Grew wr) (C6 wr x) (C7 wr x) (C8 W1 b k t (.slice aN ns.length cN) (.slice aA mA cA) (l.take j ++ [x])) 33 7 8 9 28 29 30) (Fr (fun k => (Value.slice aA mA cA).ownBlock = some k)) [(21, Rg.Ex (.pointer (some ⟨b, 3, none⟩))), (22, Rg.Ex (.slice aA mA cA)), (23, Rg.Ex (.pointer (some ⟨w'.heap.size, 3, none⟩))), (24, Rg.Ex (.slice (some ⟨g, o, none⟩) l.length cap)), (25, Rg.Ex (.int .i64 j)), (26, Rg.Ex (.pointer (some ⟨g, o + j * 4, none⟩))), (27, Rg.Ex (.agg #[Kv x.kind, St x.text, .slice an' x.names.length cn', .slice aa' x.parts.length ca'])), (28, FAny), (29, FAny), (30, FAny), (31, Rg.Ex (.pointer (some ⟨b, 3, none⟩)))] (by kernel_rfl) (by kernel_rfl) (by rfl) (by rfl)
            (fun a => Fr.refl _ a) (fun a b c h k => h.trans k (fun _ _ f => f)) (Fr.refl _ _).drew
            (Rg.Stays.all ⟨Rg.Ex.stays _, Rg.Ex.stays _, Rg.Ex.stays _, Rg.Ex.stays _, Rg.Ex.stays _, Rg.Ex.stays _, Rg.Ex.stays _, fun _ _ _ _ _ => trivial, fun _ _ _ _ _ => trivial, fun _ _ _ _ _ => trivial, Rg.Ex.stays _, trivial⟩) ?_ ?_ ?_
          · go_light
            refine Rg.OpGoalsJ.cons ⟨rfl, ?_⟩ (Rg.OpGoalsJ.cons ⟨rfl, ?_⟩ (Rg.OpGoalsJ.cons ⟨rfl, ?_⟩ (Rg.OpGoalsJ.cons ⟨rfl, ?_⟩ (Rg.OpGoalsJ.cons ⟨rfl, ?_⟩ (Rg.OpGoalsJ.cons ⟨rfl, ?_⟩ (Rg.OpGoalsJ.cons ⟨rfl, ?_⟩ (Rg.OpGoalsJ.cons ⟨rfl, ?_⟩ (Rg.OpGoalsJ.cons ⟨rfl, ?_⟩ (Rg.OpGoalsJ.cons ⟨rfl, ?_⟩ (Rg.OpGoalsJ.cons ⟨rfl, ?_⟩ Rg.OpGoalsJ.none))))))))))
            all_goals (intro listed a' w2 hmc hS hI hR; simp [Rg.Rd, Op.operands, Call.operands, Rg.Fk, Rg.Ex] at hR)
            all_goals (have hIo := fun i d v (h1 : i ≠ 7 ∧ i ≠ 8 ∧ i ≠ 9) (h2 : d ≠ 28 ∧ d ≠ 29 ∧ d ≠ 30) => hI.pure (i := i) (d := d) v h1 h2)
            all_goals (have e3' := hS.cell e3 (HNO2.out _ (by simp; omega)); have p3' := hS.cell p3 (HNO2.out _ (by simp; omega)); have c0' := hS.cell c0 (HNO2.out _ (by simp; omega)); have c1' := hS.cell c1 (HNO2.out _ (by simp; omega)); have c2' := hS.cell c2 (HNO2.out _ (by simp; omega)); have c3' := hS.cell c3 (HNO2.out _ (by simp; omega)))
            all_goals try (simp [Rg.Yields, execOp, Act.eval, hR, hlt, e3', p3', c0', c1', c2', c3', go_sem, Rg.Fk, Rg.Ex, FAny, Fr.refl]; exact hIo _ _ _ (by decide) (by decide))
            · have hno : listed.getD 7 false = false := hmc.not
              have hno7 : listed.getD 8 false = false := by
                  cases h : listed.getD 8 false with
                  | false => rfl
                  | true => have := hmc.closed 8 _ rfl h { on := 7, ground := .data } (by simp) rfl; rw [hno] at this; cases this
              have hno8 : listed.getD 9 false = false := by
                  cases h : listed.getD 9 false with
                  | false => rfl
                  | true => have := hmc.closed 9 _ rfl h { on := 8, ground := .data } (by simp) rfl; rw [hno7] at this; cases this
              have h0 := hI.i0 hno
              simp [Rg.Yields, Act.eval, hR, go_sem, Rg.Fk, Rg.Ex, FAny]
              refine (HCALL.out w2 h0).mono ?_
              intro e w3 hpost
              obtain ⟨v, rfl, h6, hf3⟩ := C6.of h0 hpost
              exact ⟨v, rfl, Grew.any hf3, hI.call h6 (by rw [hmc.size]; decide) (by decide) hno7 hno8 (by decide)⟩
            · have h6l : listed.getD 7 false = true := hmc.own { on := 7, ground := .data } (by simp) rfl
              have hno7 : listed.getD 8 false = false := hmc.not
              have hno8 : listed.getD 9 false = false := by
                  cases h : listed.getD 9 false with
                  | false => rfl
                  | true => have := hmc.closed 9 _ rfl h { on := 8, ground := .data } (by simp) rfl; rw [hno7] at this; cases this
              obtain ⟨an2, cn2, ax2, cx2, e1, hx⟩ := hI.i6 h6l hno7
              rw [Array.getD_eq_getD_getElem?] at e1
              simp [Rg.Yields, execOp, Act.eval, e1, go_sem, Rg.Fk, Rg.Ex, FAny]
              exact ⟨Grew.any ((Fr.refl _ _).alloc _), hI.build ⟨_, _, w2, rfl, rfl, hx⟩ (by rw [hmc.size]; decide) (by decide) h6l hno8 (by decide)⟩
            · have h7l : listed.getD 8 false = true := hmc.own { on := 8, ground := .data } (by simp) rfl
              have h6l : listed.getD 7 false = true := hmc.closed 8 _ rfl h7l { on := 7, ground := .data } (by simp) rfl
              have hno8 : listed.getD 9 false = false := hmc.not
              obtain ⟨v1, w6, hrun, h8, hf8⟩ := C8.of HSC.out (by omega) (by simp; omega) (hI.i7 h7l hno8) 26
              refine Yields_app rfl ?_ rfl hrun ⟨fun d hd => by cases hd; simp [Rg.Fk, FAny], hf8, hI.app h8 (by rw [hmc.size]; decide) (by decide) h6l h7l (by decide)⟩
              show a'.tmps.getD 22 undef = _
              rw [Array.getD_eq_getD_getElem?]; first | exact hR.1 | exact hR
          · exact ⟨rfl, fun _ => (Fr.refl _ _).drew, fun q => by simp at q, fun q => by simp at q, fun q => by simp at q⟩
          · rintro w5 hS _ rfl _ rfl _ rfl _ rfl _ rfl _ rfl _ rfl v28 _ v29 _ v30 _ _ rfl hI
            have h8 := hI.i8 rfl
            have hsz := hI.sz
            rw [Rg.put_getD_ne _ (by simp), Rg.put_getD_eq _ (by rw [put_size', put_size'] at hsz; rw [hsz]; simp)] at h8
            obtain ⟨⟨aV, nV, cV, rfl⟩, e3', f3', has2⟩ := h8
            have HAS2 := hid has2
            clear has2 hI hS hsz
            go_wp2
            go_roundw
            case rel => first | exact ⟨j + 1, .slice aV nV cV, by omega, by go_num, ⟨_, _, _, rfl⟩, HTK.out ▸ HAS2.out⟩ | exact ⟨j + 1, by omega, by go_num, .slice aV nV cV, ⟨_, _, _, rfl⟩, HTK.out ▸ HAS2.out⟩ | exact ⟨j + 1, by omega, .slice aV nV cV, by go_num, ⟨_, _, _, rfl⟩, HTK.out ▸ HAS2.out⟩
            case measure => simp [intOf]; omega
        · obtain rfl : j = l.length := by omega
          rw [List.take_length] at hsc
          have hres : wr.heap[w'.heap.size + 1]? = some newB := hsc.keep.get (HF01.out.get HRES.out (by omega)) (by omega)
          have f0 := frozen_of_get hres 0
          have f1 := frozen_of_get hres 1
          have f2 := frozen_of_get hres 2
          have f3 := frozen_of_get hres 3
          have r0 := cell_of_get hres 0
          have r1 := cell_of_get hres 1
          have r2 := cell_of_get hres 2
          have r3 := cell_of_get hres 3
          have e0 := cell_of_get hsc.box 0
          have e1 := cell_of_get hsc.box 1
          have e2 := cell_of_get hsc.box 2
          have e3 := cell_of_get hsc.box 3
          have HDONE := hid (copy_done hs0 HF01.out HRT.out HSEP.out hsc hw'r)
          have HR := hid hres
          clear hsc hw'r hW0r hwr hres
          go_wp2
          refine bodyPost_ret (res28 Try.results57 _ _ (w'.heap.size + 1) rfl (set4_heap HR.out _ _ _ _)) rfl ?_
          exact HDONE.out _ _ _ _

theorem copy_row {w : World} {D : Nat → Prop} {v : Value} {l : List X} (h : Row w D v l) : CopyAt w D v l := by
  refine Row.ind (P := CopyAt w D) ?_ ?_ h
  · intro ad cap
    show CopyAt w D (.slice ad ([] : List X).length cap) []
    exact copy_core (fun e => absurd rfl e)
  · intro l g o cap _ _ _ H
    exact copy_core (fun _ => ⟨g, o, rfl, H⟩)

/-- Copy -/
theorem copy_any {w : World} {D : Nat → Prop} {e : Value} {x : X} (h : Rd w D e x) (hx : Smn 900 x) : Calls Try.prog 57 #[e] w (CpPost w x) := by
  obtain ⟨vn, va, rfl, hn, hr⟩ := h
  cases hx with
  | mk k t ns a ht hnl ha hs => exact copy_row hr hs ha w (Fr.refl _ _) k t vn ns hn hnl
end Go.Proofs.Ytddcfnjmppijjaa
