import Derived.Test.YtddcfnjmppijjaaM21
/-! Term's walk. -/
namespace Go.Proofs.Ytddcfnjmppijjaa
open Go.RowKit

set_option maxHeartbeats 6000000 in
set_option maxRecDepth 100000 in
theorem term_a {w : World} {l : List RT} {va : Value} (h : RRow w (fun _ => False) va l) (h2 : 2 ≤ l.length) (hL : l.length ≤ 5) (hn : nodesL l ≤ 40) :
    Calls Try.prog 18 #[va] w (TmPost w l) := by
  obtain ⟨g, o, cap, rfl, hc1, hc2, -, hel⟩ := h.elems.resolve_left (fun e => by subst e; simp at h2)
  obtain ⟨W2, hW2⟩ : ∃ q : World, q = (w.alloc newB).alloc mkB := ⟨_, rfl⟩
  obtain ⟨W3, hW3⟩ : ∃ q : World, q = W2.alloc (exB 9) := ⟨_, rfl⟩
  have hs2 : W2.heap.size = w.heap.size + 2 := by rw [hW2]; simp
  have hs3 : W3.heap.size = w.heap.size + 3 := by rw [hW3]; simp; omega
  have hg2 : Grew w W2 := by rw [hW2]; exact ((Fr.refl _ _).alloc _).alloc _
  have hg3 : Grew W2 W3 := by rw [hW3]; exact (Fr.refl _ _).alloc _
  have hres : W2.heap[w.heap.size]? = some newB := by rw [hW2]; exact ((Fr.refl (fun _ => False) _).alloc _).get (heap_alloc_new _ _) (fun f => f)
  have hmk : Mk W2 (w.heap.size + 1) 0 := by rw [hW2]; exact heap_a2 _ _ _
  have hbx : W3.heap[w.heap.size + 1 + 1]? = some (exB 9) := by
    rw [hW3, show w.heap.size + 1 + 1 = W2.heap.size by omega]; exact heap_alloc_new _ _
  have hnt : NT W3 (w.heap.size + 1) (w.heap.size + 1 + 1) 0 (.slice none 0 0) W3 := ⟨Fr.refl _ _, hmk.grew hg3, hbx, World.ownsRow_nil _ _ _ _⟩
  have HNT0 := hid hnt
  have HEL := hid hel
  have HH := hid h
  have HGS := hid (And.intro hg2 (And.intro hg3 (And.intro hres hn)))
  have hml2 : w.heap.size + 1 < W2.heap.size := by omega
  replace hc2 : cap ≤ 9223372036854775807 := hc2
  clear h hel hg2 hg3 hres hmk hbx hnt hn
  go_enter Try.func18, Try.ntmps18
  go_wp2
  have hWe : (((w.alloc newB).alloc mkB).alloc (exB 9)) = W3 := by rw [hW3, hW2]
  have HWE := hid hWe
  clear hW2 hW3 hWe
  have HM3 := hid (show w.heap.size + 1 < W3.heap.size by omega)
  have HB3 := hid (show w.heap.size + 1 + 1 < W3.heap.size by omega)
  go_loopw [5] (fun vi wr => ∃ (p : Nat) (vN : Value), p + 1 ≤ l.length ∧ vi = .int .i64 ((p + 1 : Nat) : Int) ∧ (∃ a m c, vN = .slice a m c) ∧ NT W3 (w.heap.size + 1) (w.heap.size + 1 + 1) p vN wr) (fun vi _ => 5 - (intOf vi).toNat)
  case atStart => exact ⟨0, _, by omega, rfl, ⟨_, _, _, rfl⟩, by
    show NT W3 _ _ _ _ (((w.alloc newB).alloc mkB).alloc (exB 9))
    rw [HWE.out]; exact HNT0.out⟩
  case round =>
    obtain ⟨p, vN, hp, rfl, ⟨aN, nN, cN, rfl⟩, hnt⟩ := hrel
    have c2 := cell_of_get hnt.box 2
    by_cases hlt : p + 1 < l.length
    · have hl1 : p + 1 < l.length := by omega
      have hl5 : p + 1 < 5 := by omega
      have hwr := hnt.keep.size
      have HNT := hid hnt
      have HNO := hid (fun (x : Nat) (hx : x = w.heap.size + 1 + 1) => show ¬ (x = w.heap.size + 1 ∨ (Value.slice aN nN cN).ownBlock = some x) from fun e => by
        rcases e with e | e
        · omega
        · have := (HNT.out.row.lt x e).1; omega)
      clear hnt
      go_wp2
      refine Rg.wp_region_factsJ 7 (Qs (N0 wr (w.heap.size + 1) p) (N6 wr (w.heap.size + 1) p) (N7 wr (w.heap.size + 1) p) (N8 W3 (w.heap.size + 1) (w.heap.size + 1 + 1) p (.slice aN nN cN)) 75 3 4 5 35 36 37) (Fr (fun k => k = w.heap.size + 1 ∨ (Value.slice aN nN cN).ownBlock = some k)) [(32, Rg.Ex (.pointer (some ⟨w.heap.size + 1 + 1, 2, none⟩))), (33, Rg.Ex (.slice aN nN cN)), (34, Rg.Ex (.pointer (some ⟨w.heap.size + 1, 0, none⟩))), (35, FAny), (36, FAny), (37, FAny), (38, Rg.Ex (.pointer (some ⟨w.heap.size + 1 + 1, 2, none⟩)))] (by kernel_rfl) (by kernel_rfl) (by rfl) (by rfl)
        (fun a => Fr.refl _ a) (fun a b c h k => h.trans k (fun _ _ f => f)) (Fr.refl _ _).drew
        (Rg.Stays.all ⟨Rg.Ex.stays _, Rg.Ex.stays _, Rg.Ex.stays _, fun _ _ _ _ _ => trivial, fun _ _ _ _ _ => trivial, fun _ _ _ _ _ => trivial, Rg.Ex.stays _, trivial⟩) ?_ ?_ ?_
      · go_light
        refine Rg.OpGoalsJ.cons ⟨rfl, ?_⟩ (Rg.OpGoalsJ.cons ⟨rfl, ?_⟩ (Rg.OpGoalsJ.cons ⟨rfl, ?_⟩ (Rg.OpGoalsJ.cons ⟨rfl, ?_⟩ (Rg.OpGoalsJ.cons ⟨rfl, ?_⟩ (Rg.OpGoalsJ.cons ⟨rfl, ?_⟩ (Rg.OpGoalsJ.cons ⟨rfl, ?_⟩ Rg.OpGoalsJ.none))))))
        all_goals (intro listed a' w2 hmc hS hI hR; simp [Rg.Rd, Op.operands, Call.operands, Rg.Fk, Rg.Ex] at hR)
        all_goals (have hIo := fun i d v (h1 : i ≠ 3 ∧ i ≠ 4 ∧ i ≠ 5) (h2 : d ≠ 35 ∧ d ≠ 36 ∧ d ≠ 37) => hI.pure (i := i) (d := d) v h1 h2)
        all_goals (have c2' := hS.cell c2 (HNO.out _ (by simp)))
        all_goals try (simp [Rg.Yields, execOp, Act.eval, hR, c2', go_sem, Rg.Fk, Rg.Ex, FAny, Fr.refl]; exact hIo _ _ _ (by decide) (by decide))
        · have hno : listed.getD 3 false = false := hmc.not
          have hno7 : listed.getD 4 false = false := by
              cases h : listed.getD 4 false with
              | false => rfl
              | true => have := hmc.closed 4 _ rfl h { on := 3, ground := .data } (by simp) rfl; rw [hno] at this; cases this
          have hno8 : listed.getD 5 false = false := by
              cases h : listed.getD 5 false with
              | false => rfl
              | true => have := hmc.closed 5 _ rfl h { on := 4, ground := .data } (by simp) rfl; rw [hno7] at this; cases this
          have h0 := hI.i0 hno
          simp [Rg.Yields, Act.eval, hR, go_sem, Rg.Fk, Rg.Ex, FAny]
          refine (name_any h0.2 (by omega)).mono ?_
          rintro e w3 ⟨rfl, hmk, hfr⟩
          exact ⟨_, rfl, hfr.mono (fun _ _ e => .inl e), hI.call ⟨rfl, h0.1.trans hfr (fun _ _ e => e), hmk⟩ (by rw [hmc.size]; decide) (by decide) hno7 hno8 (by decide)⟩
        · have h6l : listed.getD 3 false = true := hmc.own { on := 3, ground := .data } (by simp) rfl
          have hno7 : listed.getD 4 false = false := hmc.not
          have hno8 : listed.getD 5 false = false := by
              cases h : listed.getD 5 false with
              | false => rfl
              | true => have := hmc.closed 5 _ rfl h { on := 4, ground := .data } (by simp) rfl; rw [hno7] at this; cases this
          obtain ⟨e1, hx1, hx2⟩ := hI.i6 h6l hno7
          rw [Array.getD_eq_getD_getElem?] at e1
          simp [Rg.Yields, execOp, Act.eval, e1, go_sem, Rg.Fk, Rg.Ex, FAny]
          exact ⟨Grew.any ((Fr.refl _ _).alloc _), hI.build ⟨w2, rfl, rfl, hx1, hx2⟩ (by rw [hmc.size]; decide) (by decide) h6l hno8 (by decide)⟩
        · have h7l : listed.getD 4 false = true := hmc.own { on := 4, ground := .data } (by simp) rfl
          have h6l : listed.getD 3 false = true := hmc.closed 4 _ rfl h7l { on := 3, ground := .data } (by simp) rfl
          have hno8 : listed.getD 5 false = false := hmc.not
          obtain ⟨v1, w6, hrun, h8, hf8⟩ := N8.of HNT.out HB3.out HM3.out (by omega) (by omega) (hI.i7 h7l hno8) 25
          refine Yields_app rfl ?_ rfl hrun ⟨fun d hd => by cases hd; simp [Rg.Fk, FAny], hf8, hI.app h8 (by rw [hmc.size]; decide) (by decide) h6l h7l (by decide)⟩
          show a'.tmps.getD 33 undef = _
          rw [Array.getD_eq_getD_getElem?]; first | exact hR.1 | exact hR
      · exact ⟨rfl, fun _ => ⟨(Fr.refl _ _).drew, HNT.out.cnt⟩, fun q => by simp at q, fun q => by simp at q, fun q => by simp at q⟩
      · rintro w5 hS _ rfl _ rfl _ rfl v35 _ v36 _ v37 _ _ rfl hI
        have h8 := hI.i8 rfl
        have hsz := hI.sz
        rw [Rg.put_getD_ne _ (by simp), Rg.put_getD_eq _ (by rw [put_size', put_size'] at hsz; rw [hsz]; simp)] at h8
        obtain ⟨⟨aV, nV, cV, rfl⟩, e3, f3', has2⟩ := h8
        have HAS2 := hid has2
        clear has2 hI hS hsz
        go_wp2
        go_roundw
        case rel => first | exact ⟨p + 1, .slice aV nV cV, by omega, by go_num, ⟨_, _, _, rfl⟩, HAS2.out⟩ | exact ⟨p + 1, by omega, by go_num, .slice aV nV cV, ⟨_, _, _, rfl⟩, HAS2.out⟩ | exact ⟨p + 1, by omega, .slice aV nV cV, by go_num, ⟨_, _, _, rfl⟩, HAS2.out⟩
        case measure => simp [intOf]; omega
    · obtain ⟨q, rfl⟩ : ∃ q, q = p := ⟨_, rfl⟩
      obtain ⟨wo, rfl⟩ : ∃ z : World, z = wr := ⟨_, rfl⟩
      have hq : q + 1 = l.length := by omega
      obtain ⟨aN', cN', eN, -⟩ := hnt.row.shape
      simp only [Value.slice.injEq] at eN
      obtain ⟨-, rfl, -⟩ := eN
      obtain ⟨hg2, hg3, hres, hn⟩ := HGS.out
      have hat0 := at_init hg2 hs2 hg3 hnt
      have hko := hnt.keep.size
      have hwo : Fr (fun k => k = w.heap.size + 1) w wo := ((Grew.any (F := fun k => k = w.heap.size + 1) hg2).trans (Grew.any (F := fun k => k = w.heap.size + 1) hg3) (fun _ _ e => e)).trans hnt.keep (fun k hk e => by rcases e with e | e <;> omega)
      have hNm : Nm wo (fun b => b < W3.heap.size) (.slice aN (nms 0 q).length cN) (nms 0 q) := nm_of_rt hnt.row
      have HNTO := hid hnt
      have HAT0 := hid hat0
      have HNM := hid hNm
      have HWO := hid hwo
      have hg0 : g < w.heap.size := by
        obtain ⟨x0, hx0⟩ := at_of_lt (show 0 < l.length by omega)
        obtain ⟨aa0, ca0, he0⟩ := HEL.out 0 x0 hx0
        exact World.block_lt_of_cell? w _ he0.c0
      clear hnt hat0 hNm hwo hg2 hg3 hres hn hlt HNT0
      go_wp2
      go_loopw [6] (fun vi wr => ∃ (p : Nat) (vA : Value) (xs : List X), p + 1 ≤ l.length ∧ vi = .int .i64 ((p + 1 : Nat) : Int) ∧ AT W2 (w.heap.size + 1) q (w.heap.size + 1 + 1) wo.heap.size wo 9 [] (.slice aN (nms 0 q).length cN) (nms 0 q) p (TM l p) vA xs wr) (fun vi _ => 5 - (intOf vi).toNat)
      case atStart => exact ⟨0, _, _, by omega, rfl, HAT0.out⟩
      case round =>
        obtain ⟨p, vA, xs, hp2, rfl, has⟩ := hrel
        obtain ⟨aA, cA, rfl, -⟩ := has.ox.shape
        have hwr := has.old.size
        have hoB := has.oldB
        have c0 := cell_of_get has.box 0
        have c1 := cell_of_get has.box 1
        have c2 := cell_of_get has.box 2
        have c3 := cell_of_get has.box 3
        obtain ⟨N1, hm1, hn1, hn2⟩ := has.cnt
        have hwr0 : Fr (fun k => k = w.heap.size + 1) w wr := HWO.out.trans has.old (fun k hk e => by rcases e with e | e <;> omega)
        have hNmr : Nm wr (fun b => b < W3.heap.size) (.slice aN (nms 0 q).length cN) (nms 0 q) := HNM.out.kept has.old (fun b e => by rcases e with e | e <;> omega)
        have HAS := hid has
        have HM1 := hid hm1
        have HN12 := hid (And.intro hn1 hn2)
        have HWR := hid hwr0
        have HNMR := hid hNmr
        have HPG := hid (fun (r : RT) (aa : Option Addr) (ca : Nat) (hrow : RRow w (fun _ => False) (.slice aa r.l.length ca) r.l) (hb : N1 + 8 * (1 + nodesL r.l) ≤ 800000) (w2 : World) (hS : Fr (fun b => b = w.heap.size + 1) wr w2) (hM2 : Mk w2 (w.heap.size + 1) N1) =>
          make_any (mb := w.heap.size + 1) (hrow.mono (fun b hb e => by omega)) w2 r.k r.n N1 (.slice aN (nms 0 q).length cN) (nms 0 q) (HWR.out.trans hS (fun _ _ e => e)) hM2 (by omega) ((HNMR.out.kept hS (fun b e => by omega)).mono (fun b _ e => by omega)) (nms_ok 0 q (by omega)) (by rw [nms_length]; omega))
        have HNO := hid (fun (x : Nat) (hx : x = w.heap.size + 1 + 1 ∨ x = g) => show ¬ (x = w.heap.size + 1 ∨ (Value.slice aA xs.length cA).ownBlock = some x) from fun e => by
          rcases e with e | e
          · omega
          · have := (HAS.out.ox.lt e).1; omega)
        have HJ := hid (show p ≤ 100 by omega)
        have hTM : TM l p ≤ 8 * nodesL l := by have := nodesL_take_le (l.drop 1) p; have h3 : nodesL (l.drop 1) ≤ nodesL l := (by cases l with | nil => simp | cons x r => simp [nodesL]); unfold TM; omega
        by_cases hlt : p + 1 < l.length
        · obtain ⟨r, hr⟩ := at_of_lt (show p + 1 < l.length by omega)
          obtain ⟨aa, ca, he⟩ := HEL.out (p + 1) r hr
          have e0 := HWR.out.cell he.c0 (by simp; omega)
          have e1 := HWR.out.cell he.c1 (by simp; omega)
          have e2 := HWR.out.cell he.c2 (by simp; omega)
          have hx1 : (p : Int) + 1 < (l.length : Int) := by omega
          have hx2 : (0 : Int) ≤ (p : Int) + 1 := by omega
          have hnr : nodesL r.l ≤ 40 := by have := nodesL_take l (p + 1) r hr; have := nodesL_take_le l (p + 1 + 1); have := HGS.out.2.2.2; omega
          have HPART := hid (HPG.out r aa ca he.row (by have := HGS.out.2.2.2; omega))
          have HNS := hid (And.intro hn1 (And.intro hn2 hnr))
          have HTS := hid (TM_succ l p r hr)
          clear has hm1 hn1 hn2 hwr0 hNmr he hr hTM hnr
          go_wp2
          refine Rg.wp_region_factsJ 13 (Qs (P0 wr (w.heap.size + 1) N1) (P6 wr (w.heap.size + 1) N1 (8 * (1 + nodesL r.l)) (nms 0 q)) (P7 wr (w.heap.size + 1) N1 (8 * (1 + nodesL r.l)) (nms 0 q)) (P8T (W2) (w.heap.size + 1) q (w.heap.size + 1 + 1) wo.heap.size wo 9 [] (.slice aN (nms 0 q).length cN) (nms 0 q) p (TM l p + (8 * (1 + nodesL r.l))) (.slice aA xs.length cA)) 75 9 10 11 58 59 60) (Fr (fun k => k = w.heap.size + 1 ∨ (Value.slice aA xs.length cA).ownBlock = some k)) [(49, Rg.Ex (.pointer (some ⟨w.heap.size + 1 + 1, 3, none⟩))), (50, Rg.Ex (.slice aA xs.length cA)), (51, Rg.Ex (.pointer (some ⟨w.heap.size + 1, 0, none⟩))), (52, Rg.Ex (.slice (some ⟨g, o, none⟩) l.length cap)), (53, Rg.Ex (.int .i64 ((p + 1 : Nat) : Int))), (54, Rg.Ex (.pointer (some ⟨g, o + (p + 1) * 3, none⟩))), (55, Rg.Ex (.agg #[Kv r.k, Kv r.n, .slice aa r.l.length ca])), (56, Rg.Ex (.pointer (some ⟨w.heap.size + 1 + 1, 2, none⟩))), (57, Rg.Ex (.slice aN (nms 0 q).length cN)), (58, FAny), (59, FAny), (60, FAny), (61, Rg.Ex (.pointer (some ⟨w.heap.size + 1 + 1, 3, none⟩)))] (by kernel_rfl) (by kernel_rfl) (by rfl) (by rfl)
            (fun a => Fr.refl _ a) (fun a b c h k => h.trans k (fun _ _ f => f)) (Fr.refl _ _).drew
            (Rg.Stays.all ⟨Rg.Ex.stays _, Rg.Ex.stays _, Rg.Ex.stays _, Rg.Ex.stays _, Rg.Ex.stays _, Rg.Ex.stays _, Rg.Ex.stays _, Rg.Ex.stays _, Rg.Ex.stays _, fun _ _ _ _ _ => trivial, fun _ _ _ _ _ => trivial, fun _ _ _ _ _ => trivial, Rg.Ex.stays _, trivial⟩) ?_ ?_ ?_
          · go_light
            refine Rg.OpGoalsJ.cons ⟨rfl, ?_⟩ (Rg.OpGoalsJ.cons ⟨rfl, ?_⟩ (Rg.OpGoalsJ.cons ⟨rfl, ?_⟩ (Rg.OpGoalsJ.cons ⟨rfl, ?_⟩ (Rg.OpGoalsJ.cons ⟨rfl, ?_⟩ (Rg.OpGoalsJ.cons ⟨rfl, ?_⟩ (Rg.OpGoalsJ.cons ⟨rfl, ?_⟩ (Rg.OpGoalsJ.cons ⟨rfl, ?_⟩ (Rg.OpGoalsJ.cons ⟨rfl, ?_⟩ (Rg.OpGoalsJ.cons ⟨rfl, ?_⟩ (Rg.OpGoalsJ.cons ⟨rfl, ?_⟩ (Rg.OpGoalsJ.cons ⟨rfl, ?_⟩ (Rg.OpGoalsJ.cons ⟨rfl, ?_⟩ Rg.OpGoalsJ.none))))))))))))
            all_goals (intro listed a' w2 hmc hS hI hR; simp [Rg.Rd, Op.operands, Call.operands, Rg.Fk, Rg.Ex] at hR)
            all_goals (have hIo := fun i d v (h1 : i ≠ 9 ∧ i ≠ 10 ∧ i ≠ 11) (h2 : d ≠ 58 ∧ d ≠ 59 ∧ d ≠ 60) => hI.pure (i := i) (d := d) v h1 h2)
            all_goals (have c3' := hS.cell c3 (HNO.out _ (by simp)); have c2' := hS.cell c2 (HNO.out _ (by simp)); have e0' := hS.cell e0 (HNO.out _ (by simp)); have e1' := hS.cell e1 (HNO.out _ (by simp)); have e2' := hS.cell e2 (HNO.out _ (by simp)))
            all_goals try (simp [Rg.Yields, execOp, Act.eval, hR, c3', c2', e0', e1', e2', hx1, hx2, go_sem, Rg.Fk, Rg.Ex, FAny, Fr.refl]; exact hIo _ _ _ (by decide) (by decide))
            · have hno : listed.getD 9 false = false := hmc.not
              have hno7 : listed.getD 10 false = false := by
                  cases h : listed.getD 10 false with
                  | false => rfl
                  | true => have := hmc.closed 10 _ rfl h { on := 9, ground := .data } (by simp) rfl; rw [hno] at this; cases this
              have hno8 : listed.getD 11 false = false := by
                  cases h : listed.getD 11 false with
                  | false => rfl
                  | true => have := hmc.closed 11 _ rfl h { on := 10, ground := .data } (by simp) rfl; rw [hno7] at this; cases this
              have h0 := hI.i0 hno
              simp [Rg.Yields, Act.eval, hR, go_sem, Rg.Fk, Rg.Ex, FAny]
              refine (HPART.out w2 h0.1 h0.2).mono ?_
              intro e w3 hpost
              obtain ⟨v, rfl, h6, hf3⟩ := P6.of h0 hpost
              exact ⟨v, rfl, hf3.mono (fun _ _ e => .inl e), hI.call h6 (by rw [hmc.size]; decide) (by decide) hno7 hno8 (by decide)⟩
            · have h6l : listed.getD 9 false = true := hmc.own { on := 9, ground := .data } (by simp) rfl
              have hno7 : listed.getD 10 false = false := hmc.not
              have hno8 : listed.getD 11 false = false := by
                  cases h : listed.getD 11 false with
                  | false => rfl
                  | true => have := hmc.closed 11 _ rfl h { on := 10, ground := .data } (by simp) rfl; rw [hno7] at this; cases this
              obtain ⟨x, an, cn, ax, cx, e1, hx⟩ := hI.i6 h6l hno7
              rw [Array.getD_eq_getD_getElem?] at e1
              simp [Rg.Yields, execOp, Act.eval, e1, go_sem, Rg.Fk, Rg.Ex, FAny]
              exact ⟨Grew.any ((Fr.refl _ _).alloc _), hI.build ⟨x, _, _, w2, rfl, rfl, hx⟩ (by rw [hmc.size]; decide) (by decide) h6l hno8 (by decide)⟩
            · have h7l : listed.getD 10 false = true := hmc.own { on := 10, ground := .data } (by simp) rfl
              have h6l : listed.getD 9 false = true := hmc.closed 10 _ rfl h7l { on := 9, ground := .data } (by simp) rfl
              have hno8 : listed.getD 11 false = false := hmc.not
              obtain ⟨v1, w6, hrun, h8, hf8⟩ := P8T.of HAS.out hml2 (by omega) (by omega) HJ.out HNS.out.1 HNS.out.2.1 (hI.i7 h7l hno8) 26
              refine Yields_app rfl ?_ rfl hrun ⟨fun d hd => by cases hd; simp [Rg.Fk, FAny], hf8, hI.app h8 (by rw [hmc.size]; decide) (by decide) h6l h7l (by decide)⟩
              show a'.tmps.getD 50 undef = _
              rw [Array.getD_eq_getD_getElem?]; first | exact hR.1 | exact hR
          · exact ⟨rfl, fun _ => ⟨(Fr.refl _ _).drew, HM1.out⟩, fun q => by simp at q, fun q => by simp at q, fun q => by simp at q⟩
          · rintro w5 hS _ rfl _ rfl _ rfl _ rfl _ rfl _ rfl _ rfl _ rfl _ rfl v58 _ v59 _ v60 _ _ rfl hI
            have h8 := hI.i8 rfl
            have hsz := hI.sz
            rw [Rg.put_getD_ne _ (by simp), Rg.put_getD_eq _ (by rw [put_size', put_size'] at hsz; rw [hsz]; simp)] at h8
            obtain ⟨xs2, ⟨aV, nV, cV, rfl⟩, e3, f3', has2⟩ := h8
            have HAS2 := hid has2
            clear has2 hI hS hsz
            go_wp2
            go_roundw
            case rel => rw [← HTS.out] at HAS2; first | exact ⟨p + 1, .slice aV nV cV, xs2, by omega, by go_num, HAS2.out⟩ | exact ⟨p + 1, by omega, by go_num, .slice aV nV cV, xs2, HAS2.out⟩ | exact ⟨p + 1, by omega, .slice aV nV cV, xs2, by go_num, HAS2.out⟩
            case measure => simp [intOf]; omega
        · obtain rfl : q = p := by omega
          obtain ⟨r, hr⟩ := at_of_lt (show 0 < l.length by omega)
          obtain ⟨aa, ca, he⟩ := HEL.out 0 r hr
          have e0 := HWR.out.cell he.c0 (by simp; omega)
          have e1 := HWR.out.cell he.c1 (by simp; omega)
          have e2 := HWR.out.cell he.c2 (by simp; omega)
          rw [Nat.zero_mul, Nat.add_zero] at e0 e1 e2
          have hx1 : (0 : Int) < (l.length : Int) := by omega
          have hx2 : 0 < l.length := by omega
          have hTL : TM l q + 8 * (1 + nodesL r.l) ≤ 8 * nodesL l := by
            cases l with
            | nil => simp at hr
            | cons x rr => simp at hr; subst hr; exact TM_le x rr q
          have HTL := hid hTL
          have HPART := hid (HPG.out r aa ca he.row (by have := HGS.out.2.2.2; omega))
          have HNS := hid (And.intro hn1 (And.intro hn2 hTL))
          clear has hm1 hn1 hn2 hwr0 hNmr he hr hTM hTL
          go_wp2
          refine Rg.wp_region_factsJ 12 (Qs (P0 wr (w.heap.size + 1) N1) (P6 wr (w.heap.size + 1) N1 (8 * (1 + nodesL r.l)) (nms 0 q)) (P7 wr (w.heap.size + 1) N1 (8 * (1 + nodesL r.l)) (nms 0 q)) (P8T (W2) (w.heap.size + 1) q (w.heap.size + 1 + 1) wo.heap.size wo 9 [] (.slice aN (nms 0 q).length cN) (nms 0 q) q (TM l q + (8 * (1 + nodesL r.l))) (.slice aA xs.length cA)) 75 8 9 10 70 71 72) (Fr (fun k => k = w.heap.size + 1 ∨ (Value.slice aA xs.length cA).ownBlock = some k)) [(62, Rg.Ex (.pointer (some ⟨w.heap.size + 1 + 1, 3, none⟩))), (63, Rg.Ex (.slice aA xs.length cA)), (64, Rg.Ex (.pointer (some ⟨w.heap.size + 1, 0, none⟩))), (65, Rg.Ex (.slice (some ⟨g, o, none⟩) l.length cap)), (66, Rg.Ex (.pointer (some ⟨g, o, none⟩))), (67, Rg.Ex (.agg #[Kv r.k, Kv r.n, .slice aa r.l.length ca])), (68, Rg.Ex (.pointer (some ⟨w.heap.size + 1 + 1, 2, none⟩))), (69, Rg.Ex (.slice aN (nms 0 q).length cN)), (70, FAny), (71, FAny), (72, FAny), (73, Rg.Ex (.pointer (some ⟨w.heap.size + 1 + 1, 3, none⟩)))] (by kernel_rfl) (by kernel_rfl) (by rfl) (by rfl)
            (fun a => Fr.refl _ a) (fun a b c h k => h.trans k (fun _ _ f => f)) (Fr.refl _ _).drew
            (Rg.Stays.all ⟨Rg.Ex.stays _, Rg.Ex.stays _, Rg.Ex.stays _, Rg.Ex.stays _, Rg.Ex.stays _, Rg.Ex.stays _, Rg.Ex.stays _, Rg.Ex.stays _, fun _ _ _ _ _ => trivial, fun _ _ _ _ _ => trivial, fun _ _ _ _ _ => trivial, Rg.Ex.stays _, trivial⟩) ?_ ?_ ?_
          · go_light
            refine Rg.OpGoalsJ.cons ⟨rfl, ?_⟩ (Rg.OpGoalsJ.cons ⟨rfl, ?_⟩ (Rg.OpGoalsJ.cons ⟨rfl, ?_⟩ (Rg.OpGoalsJ.cons ⟨rfl, ?_⟩ (Rg.OpGoalsJ.cons ⟨rfl, ?_⟩ (Rg.OpGoalsJ.cons ⟨rfl, ?_⟩ (Rg.OpGoalsJ.cons ⟨rfl, ?_⟩ (Rg.OpGoalsJ.cons ⟨rfl, ?_⟩ (Rg.OpGoalsJ.cons ⟨rfl, ?_⟩ (Rg.OpGoalsJ.cons ⟨rfl, ?_⟩ (Rg.OpGoalsJ.cons ⟨rfl, ?_⟩ (Rg.OpGoalsJ.cons ⟨rfl, ?_⟩ Rg.OpGoalsJ.none)))))))))))
            all_goals (intro listed a' w2 hmc hS hI hR; simp [Rg.Rd, Op.operands, Call.operands, Rg.Fk, Rg.Ex] at hR)
            all_goals (have hIo := fun i d v (h1 : i ≠ 8 ∧ i ≠ 9 ∧ i ≠ 10) (h2 : d ≠ 70 ∧ d ≠ 71 ∧ d ≠ 72) => hI.pure (i := i) (d := d) v h1 h2)
            all_goals (have c3' := hS.cell c3 (HNO.out _ (by simp)); have c2' := hS.cell c2 (HNO.out _ (by simp)); have e0' := hS.cell e0 (HNO.out _ (by simp)); have e1' := hS.cell e1 (HNO.out _ (by simp)); have e2' := hS.cell e2 (HNO.out _ (by simp)))
            all_goals try (simp [Rg.Yields, execOp, Act.eval, hR, c3', c2', e0', e1', e2', hx2, go_sem, Rg.Fk, Rg.Ex, FAny, Fr.refl]; exact hIo _ _ _ (by decide) (by decide))
            · have hno : listed.getD 8 false = false := hmc.not
              have hno7 : listed.getD 9 false = false := by
                  cases h : listed.getD 9 false with
                  | false => rfl
                  | true => have := hmc.closed 9 _ rfl h { on := 8, ground := .data } (by simp) rfl; rw [hno] at this; cases this
              have hno8 : listed.getD 10 false = false := by
                  cases h : listed.getD 10 false with
                  | false => rfl
                  | true => have := hmc.closed 10 _ rfl h { on := 9, ground := .data } (by simp) rfl; rw [hno7] at this; cases this
              have h0 := hI.i0 hno
              simp [Rg.Yields, Act.eval, hR, go_sem, Rg.Fk, Rg.Ex, FAny]
              refine (HPART.out w2 h0.1 h0.2).mono ?_
              intro e w3 hpost
              obtain ⟨v, rfl, h6, hf3⟩ := P6.of h0 hpost
              exact ⟨v, rfl, hf3.mono (fun _ _ e => .inl e), hI.call h6 (by rw [hmc.size]; decide) (by decide) hno7 hno8 (by decide)⟩
            · have h6l : listed.getD 8 false = true := hmc.own { on := 8, ground := .data } (by simp) rfl
              have hno7 : listed.getD 9 false = false := hmc.not
              have hno8 : listed.getD 10 false = false := by
                  cases h : listed.getD 10 false with
                  | false => rfl
                  | true => have := hmc.closed 10 _ rfl h { on := 9, ground := .data } (by simp) rfl; rw [hno7] at this; cases this
              obtain ⟨x, an, cn, ax, cx, e1, hx⟩ := hI.i6 h6l hno7
              rw [Array.getD_eq_getD_getElem?] at e1
              simp [Rg.Yields, execOp, Act.eval, e1, go_sem, Rg.Fk, Rg.Ex, FAny]
              exact ⟨Grew.any ((Fr.refl _ _).alloc _), hI.build ⟨x, _, _, w2, rfl, rfl, hx⟩ (by rw [hmc.size]; decide) (by decide) h6l hno8 (by decide)⟩
            · have h7l : listed.getD 9 false = true := hmc.own { on := 9, ground := .data } (by simp) rfl
              have h6l : listed.getD 8 false = true := hmc.closed 9 _ rfl h7l { on := 8, ground := .data } (by simp) rfl
              have hno8 : listed.getD 10 false = false := hmc.not
              obtain ⟨v1, w6, hrun, h8, hf8⟩ := P8T.of HAS.out hml2 (by omega) (by omega) HJ.out HNS.out.1 HNS.out.2.1 (hI.i7 h7l hno8) 26
              refine Yields_app rfl ?_ rfl hrun ⟨fun d hd => by cases hd; simp [Rg.Fk, FAny], hf8, hI.app h8 (by rw [hmc.size]; decide) (by decide) h6l h7l (by decide)⟩
              show a'.tmps.getD 63 undef = _
              rw [Array.getD_eq_getD_getElem?]; first | exact hR.1 | exact hR
          · exact ⟨rfl, fun _ => ⟨(Fr.refl _ _).drew, HM1.out⟩, fun q => by simp at q, fun q => by simp at q, fun q => by simp at q⟩
          · rintro w5 hS _ rfl _ rfl _ rfl _ rfl _ rfl _ rfl _ rfl _ rfl v70 _ v71 _ v72 _ _ rfl hI
            have h8 := hI.i8 rfl
            have hsz := hI.sz
            rw [Rg.put_getD_ne _ (by simp), Rg.put_getD_eq _ (by rw [put_size', put_size'] at hsz; rw [hsz]; simp)] at h8
            obtain ⟨xs2, ⟨aV, nV, cV, rfl⟩, e3, f3', has2⟩ := h8
            have HAS2 := hid has2
            clear has2 hI hS hsz
            have hbox := HAS2.out.box
            have k0 : w5.cell? ⟨w.heap.size + 1 + 1, 0, none⟩ = some (Kv 9) := by
              exact cell_back hbox 0 (by decide) rfl
            have k1 : w5.cell? ⟨w.heap.size + 1 + 1, 1, none⟩ = some (St []) := by
              exact cell_back hbox 1 (by decide) rfl
            have k2 : w5.cell? ⟨w.heap.size + 1 + 1, 2, none⟩ = some (.slice aN (nms 0 q).length cN) := by
              exact cell_back hbox 2 (by decide) rfl
            obtain ⟨hg2, hg3, hres, -⟩ := HGS.out
            have hres7 := HAS2.out.old.get ((HNTO.out.keep).get (hg3.get hres (fun f => f)) (by omega)) (by omega)
            have hres5 : w5.heap[w.heap.size]? = some newB := by
              have e := hres7; rw [Below.heap_setCell _ _ _ _ (by simp; omega)] at e; exact e
            have q0 := cell_of_get hres5 0
            have q1 := cell_of_get hres5 1
            have q2 := cell_of_get hres5 2
            have q3 := cell_of_get hres5 3
            have f0 := frozen_of_get hres5 0
            have f1 := frozen_of_get hres5 1
            have f2 := frozen_of_get hres5 2
            have f3 := frozen_of_get hres5 3
            have HR7 := hid hres7
            clear hbox hres7 hres5 hg2 hg3 hres
            go_wp2
            refine bodyPost_ret (res28 Try.results18 _ _ w.heap.size rfl (set4_heap HR7.out _ _ _ _)) rfl ?_
            obtain ⟨hg2, hg3, hres, -⟩ := HGS.out
            exact term_done hg2 hs2 hg3 hs3 HNTO.out HAS2.out HTL.out (by omega) (by omega) _ _ _ _
end Go.Proofs.Ytddcfnjmppijjaa
