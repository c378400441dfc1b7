import Derived.Test.YtddcfnjmppijjaaP8
import Derived.Test.YtddcfnjmppijjaaM26
import Derived.Sort.Walk0
/-! CoreFree's walk. -/
namespace Go.Proofs.Ytddcfnjmppijjaa
open Go.RowKit

/-- the names around -/
abbrev scp : List Str := [[97], [98], [99]]
theorem scp_ok : ∀ s ∈ scp, Nme s := by
  intro s hs
  simp at hs
  rcases hs with rfl | rfl | rfl <;> exact ⟨by simp, by simp, by simp⟩

theorem wo_mem (l ns : List Str) (t : Str) : t ∈ wo l ns ↔ t ∈ l ∧ t ∉ ns := by simp [wo]
theorem wo_nodup {l : List Str} (h : l.Nodup) (ns : List Str) : (wo l ns).Nodup := h.filter _
theorem wo_sorted {l : List Str} (h : l.Pairwise (fun x y => x ≤ y)) (ns : List Str) : (wo l ns).Pairwise (fun x y => x ≤ y) := h.filter _

theorem lam_wo {F ks : List Str} {s : Str} {x : X} (h1 : F.Pairwise (fun x y => x ≤ y)) (h2 : F.Nodup) (h3 : ∀ t, t ∈ F ↔ t ∈ x.fv) (h4 : ks.Nodup) (h5 : ∀ t, t ∈ ks ↔ t ∈ (X.mk 6 [] [s] [x]).fv) : srt ks = wo F [s] :=
  sorted_eq _ _ (srt_sorted ks) (wo_sorted h1 [s]) (srt_nodup h4) (wo_nodup h2 [s]) (fun t => by
    rw [srt_mem, h5 t, wo_mem, h3 t, mem_fv]
    simp [fvs])
theorem let_lam {ksL ksB : List Str} {s : Str} {x : X} (h4 : ksL.Nodup) (h5 : ∀ t, t ∈ ksL ↔ t ∈ (X.mk 6 [] [s] [x]).fv) (h6 : ksB.Nodup) (h7 : ∀ t, t ∈ ksB ↔ t ∈ (X.mk 9 [] [s] [x, x]).fv) : srt ksB = srt ksL :=
  sorted_eq _ _ (srt_sorted ksB) (srt_sorted ksL) (srt_nodup h6) (srt_nodup h4) (fun t => by
    rw [srt_mem, srt_mem, h5 t, h7 t, mem_fv, mem_fv]
    simp [fvs])

theorem less_of {x y : Str} (h : y ≤ x) (hne : ¬ y = x) : Op.bytesLess y x = true := by
  rw [bytesLess_eq]
  exact decide_eq_true (Classical.byContradiction fun hn => hne (str_antisymm h (List.not_lt.1 hn)))

set_option maxHeartbeats 8000000 in
set_option maxRecDepth 100000 in
theorem cfree_walk {W : World} {v : Value} {l : List RT} (hG : Gl W) (h : RRow W (fun _ => False) v l) (name : Int) : Calls Try.prog 12 #[v, .int .i64 name] W fun e W' => e = .returned (.bool true) ∧ Grew W W' := by
  have hk := known_any hG
  have hf := fun W1 (g : Grew W W1) => few_any (h.kept g (fun _ f => f.elim))
  have HT := hid (fun W1 (g : Grew W W1) (hn : nodesL l ≤ 40) => term_any (h.kept g (fun _ f => f.elim)) hn)
  have HMK := hid (fun (mb : Nat) (hmb : W.heap.size ≤ mb) => make_any (mb := mb) (h.mono (E := fun b => b = mb) (fun b hb e => by omega)))
  obtain ⟨ad, cap, rfl, -⟩ := h.shape
  clear h hG
  go_enter Try.func12, Try.ntmps12
  go_wp2_with (first | (go_at_call 32; (with_reducible refine hk.mono ?_); rintro e w1 ⟨rfl, hg1⟩) | (go_at_call 17; (with_reducible refine (hf _ hg1).mono ?_); rintro e w2 ⟨b, rfl, hb, rfl⟩; clear hf hk; have HB := hid hb; clear hb; have HG1 := hid hg1; clear hg1; cases b) | (go_at_call 18; (with_reducible refine (HT.out _ HG1.out (HB.out (by simp))).mono ?_); rintro e w3 ⟨e', xe, rfl, hrd, hgd, hsz, hg3⟩; have HRD := hid hrd; have HGD := hid hgd; have HSZ := hid hsz; have HG3 := hid hg3; obtain ⟨vn, va, rfl, hn, hr⟩ := hrd; obtain ⟨an, cn, rfl, -⟩ := hn.shape; obtain ⟨aa, ca, rfl, -⟩ := hr.shape; clear hn hr hgd hsz hg3))
  · go_ret
    exact ⟨rfl, HG1.out⟩
  obtain ⟨W5, hW5⟩ : ∃ q : World, q = ((((w3.alloc (.cells #[Kv xe.kind, St xe.text, .slice an xe.names.length cn, .slice aa xe.parts.length ca] 28)).alloc (.cells #[.string ⟨#[97]⟩, .string ⟨#[98]⟩, .string ⟨#[99]⟩] 9)).alloc (.cells #[.int .i64 1000] 56)).alloc (.cells #[.int .i64 6, .int .i64 name, .slice ad l.length cap] 59)) := ⟨_, rfl⟩
  have g35 : Grew w3 W5 := by rw [hW5]; exact ((((Fr.refl _ _).alloc _).alloc _).alloc _).alloc _
  have hs5 : W5.heap.size = w3.heap.size + 4 := by rw [hW5]; simp
  have gW3 : Grew W w3 := HG1.out.trans HG3.out (fun _ _ f => f)
  have hbe : W5.heap[w3.heap.size]? = some (.cells #[Kv xe.kind, St xe.text, .slice an xe.names.length cn, .slice aa xe.parts.length ca] 28 (0, 0)) := by rw [hW5]; exact ((((Fr.refl (fun _ => False) _).alloc _).alloc _).alloc _).get (heap_alloc_new w3 _) (fun f => f)
  have hbs : W5.heap[w3.heap.size + 1]? = some (.cells #[.string ⟨#[97]⟩, .string ⟨#[98]⟩, .string ⟨#[99]⟩] 9 (0, 0)) := by rw [hW5]; exact ((((Fr.refl (fun _ => False) _).alloc _).alloc _)).get (heap_a2 w3 _ _) (fun f => f)
  have hmk : Mk W5 (w3.heap.size + 1 + 1) 1000 := by
    rw [hW5]
    refine (((Fr.refl (fun _ => False) _).alloc _)).get ?_ (fun f => f)
    have := heap_alloc_new ((w3.alloc (.cells #[Kv xe.kind, St xe.text, .slice an xe.names.length cn, .slice aa xe.parts.length ca] 28)).alloc (.cells #[.string ⟨#[97]⟩, .string ⟨#[98]⟩, .string ⟨#[99]⟩] 9)) (.cells #[.int .i64 1000] 56)
    simpa using this
  have hsc : ∀ (w' : World), W5.heap[w3.heap.size + 1]? = w'.heap[w3.heap.size + 1]? → ∀ D : Nat → Prop, ¬ D (w3.heap.size + 1) → Nm w' D (.slice (some ⟨w3.heap.size + 1, 0, none⟩) 3 3) scp := fun w' e D hD => ⟨_, 3, rfl, Nat.le_refl _, by simp [maxLen], .inr ⟨_, 0, rfl, hD, fun i hi => by
    have hi3 : i = 0 ∨ i = 1 ∨ i = 2 := by simp at hi; omega
    rw [Nat.zero_add, cell_of_get (e ▸ hbs)]
    rcases hi3 with rfl | rfl | rfl <;> rfl⟩⟩
  have hnl : nodesL l ≤ 40 := HB.out (by simp)
  have hM := HMK.out (w3.heap.size + 1 + 1) (by have := gW3.size; omega) W5 6 name 1000 _ scp (Grew.any (gW3.trans g35 (fun _ _ f => f))) hmk (by omega) (hsc W5 rfl _ (by omega)) scp_ok (by simp; omega)
  have HS5 := hid hs5
  have HG5 := hid (gW3.trans g35 (fun _ _ f => f))
  have HBE := hid hbe
  have HBS := hid hbs
  have HSC := hid hsc
  have HRDE := hid ((HRD.out.mono (E := fun b => b = w3.heap.size + 1 + 1) (fun b hb e => by have := HG3.out.size; omega)).grew g35)
  have HNL := hid hnl
  have HWZ := hid (show W.heap.size ≤ w3.heap.size from gW3.size)
  rw [← hW5]
  clear hW5 g35 hs5 gW3 hbe hbs hmk hsc hnl HMK HT HB HG1 HG3
  (with_reducible refine hM.mono ?_)
  clear hM
  rintro e w6 ⟨e', x, N', rfl, hrd, hgd, hsz, -, -, -, hfr⟩
  have HFR := hid hfr
  have HGX := hid hgd
  have HSX := hid hsz
  have HRX := hid hrd
  obtain ⟨vn, va, rfl, hn, hr⟩ := hrd
  obtain ⟨an2, cn2, rfl, -⟩ := hn.shape
  obtain ⟨aa2, ca2, rfl, -⟩ := hr.shape
  have hfree := fun o => free_any (w := w6.alloc o) (HRX.out.grew ((Fr.refl _ _).alloc o)) (good_small hgd scp_ok) (by have := HNL.out; omega)
  clear hn hr hgd hsz hfr
  go_wp2_with (go_at_call 40; (with_reducible refine (hfree _).mono ?_); rintro e w8 ⟨vF, ks, rfl, hrt, hnd, hmem, hg8⟩; clear hfree; have HRT := hid hrt; have HND := hid hnd; have HMEM := hid hmem; have HG8 := hid hg8; obtain ⟨aF, cF, rfl, hF1, hF2⟩ := hrt.shape; clear hrt hnd hmem hg8)
  have hw8 : w8.heap[w3.heap.size + 1]? = some (.cells #[.string ⟨#[97]⟩, .string ⟨#[98]⟩, .string ⟨#[99]⟩] 9 (0, 0)) := HG8.out.get (((Fr.refl (fun _ => False) _).alloc _).get (HFR.out.get HBS.out (by omega)) (fun f => f)) (fun f => f)
  have HW8 := hid hw8
  clear hw8
  have HLE := hid (srt_sorted ks)
  have HNF := hid (srt_nodup HND.out)
  have HMF := hid (show ∀ s, s ∈ srt ks ↔ s ∈ x.fv from fun s => (srt_mem ks s).trans (HMEM.out s))
  have HLN := hid (show (srt ks).length ≤ 900000 from by
    have h1 := nodup_len HNF.out (m := x.fv) (fun s hs => (HMF.out s).1 hs)
    have h2 := fv_len x
    have h3 := HSX.out
    have h4 := HNL.out
    omega)
  generalize hF : srt ks = F at *
  replace hF2 : cF ≤ 9223372036854775807 := hF2
  clear hF
  go_loopw [11] (fun i wr => ∃ j : Nat, j ≤ F.length ∧ i = .int .i64 j ∧ Grew w8 wr) (fun i _ => F.length - (intOf i).toNat)
  case atStart => exact ⟨0, Nat.zero_le _, rfl, Fr.refl _ _⟩
  case round =>
    obtain ⟨j, hj, rfl, hgr⟩ := hrel
    by_cases hlt : j < F.length
    · obtain ⟨x0, hx0⟩ := at_of_lt hlt
      obtain ⟨gF, oF, cF', e, -, -, -, hel⟩ := (nm_of_rt HRT.out).row (fun e => by rw [e] at hlt; simp at hlt)
      simp only [Value.slice.injEq] at e
      obtain ⟨rfl, -, rfl⟩ := e
      have c0 := hgr.cell (hel j x0 hx0) (fun f => f)
      have hin : decide (x0 ∈ scp) = true := decide_eq_true (good_fv HGX.out x0 ((HMF.out x0).1 (List.mem_of_getElem? hx0)))
      have hall : ∀ m, Calls Try.prog 25 #[.slice (some ⟨w3.heap.size + 1, 0, none⟩) 3 3, St x0] (wr.drewN m) fun e w' => e = .returned (.bool true) ∧ wr.drewN m = w' := fun m => by
        have := in_any (HSC.out (wr.drewN m) (HBS.out.trans ((hgr.drewN m).get HW8.out (fun f => f)).symm) (fun _ => False) (fun f => f)) x0
        rwa [hin] at this
      have HGR := hid hgr
      by_cases hj0 : j = 0
      · subst hj0
        rw [Nat.add_zero] at c0
        clear hel hgr hx0 hin
        go_wp2
        go_quiet (first | (go_at_call 25; exact quiet_same (hall _)))
        go_wp2
        go_roundw
        case rel => exact ⟨1, by omega, by go_num, HGR.out.drewN _⟩
        case measure => simp [intOf]; omega
      · obtain ⟨i, rfl⟩ : ∃ i, j = i + 1 := ⟨j - 1, by omega⟩
        obtain ⟨y0, hy0⟩ := at_of_lt (l := F) (i := i) (by omega)
        have d0 := hgr.cell (hel i y0 hy0) (fun f => f)
        have hbl : Op.bytesLess y0 x0 = true := by
          have h1 := HLE.out
          have h2 := HNF.out
          rw [List.pairwise_iff_getElem] at h1
          obtain ⟨l1, g1⟩ := List.getElem?_eq_some_iff.1 hy0
          obtain ⟨l2, g2⟩ := List.getElem?_eq_some_iff.1 hx0
          refine less_of (by rw [← g1, ← g2]; exact h1 i (i + 1) l1 l2 (by omega)) (fun e => ?_)
          rw [List.nodup_iff_pairwise_ne, List.pairwise_iff_getElem] at h2
          exact h2 i (i + 1) l1 l2 (by omega) (by rw [g1, g2, e])
        clear hel hgr hin hx0 hy0
        go_wp2
        go_quiet (first | (go_at_call 25; exact quiet_same (hall _)))
        go_wp2
        go_roundw
        case rel => exact ⟨i + 1 + 1, by omega, by go_num, HGR.out.drewN _⟩
        case measure => simp [intOf]; omega
    · obtain rfl : j = F.length := by omega
      obtain ⟨k3, hk3, -, h3⟩ := place5 name 3 (by omega) (by omega) _ rfl
      replace h3 : ∀ W, Calls Try.prog 38 #[.int .i64 name, .int .i64 3] W fun e w' => e = .returned (Kv k3) ∧ W = w' := h3
      obtain ⟨s, hs⟩ := at_of_lt (l := scp) (i := k3) (by simpa using hk3)
      have hsr : wr.heap[w3.heap.size + 1]? = some (.cells #[.string ⟨#[97]⟩, .string ⟨#[98]⟩, .string ⟨#[99]⟩] 9 (0, 0)) := hgr.get HW8.out (fun f => f)
      have cs : wr.cell? ⟨w3.heap.size + 1, k3, none⟩ = some (St s) := by
        rw [cell_of_get hsr]
        obtain rfl | rfl | rfl : k3 = 0 ∨ k3 = 1 ∨ k3 = 2 := by omega
        all_goals (simp at hs; subst hs; rfl)
      have g6r : Grew w6 wr := (((Fr.refl (fun _ => False) w6).alloc _).trans HG8.out (fun _ _ f => f)).trans hgr (fun _ _ f => f)
      have hbx : ∀ W', Grew wr W' → W'.heap[w6.heap.size]? = some (.cells #[Kv x.kind, St x.text, .slice an2 x.names.length cn2, .slice aa2 x.parts.length ca2] 28 (0, 0)) := fun W' g => g.get (hgr.get (HG8.out.get (heap_alloc_new w6 _) (fun f => f)) (fun f => f)) (fun f => f)
      have hbe : ∀ W', Grew wr W' → W'.heap[w3.heap.size]? = some (.cells #[Kv xe.kind, St xe.text, .slice an xe.names.length cn, .slice aa xe.parts.length ca] 28 (0, 0)) := fun W' g => g.get (g6r.get (HFR.out.get HBE.out (by omega)) (fun f => f)) (fun f => f)
      have HXC := hid (fun W' (g : Grew wr W') => And.intro (cell_of_get (hbx W' g) 0) (And.intro (cell_of_get (hbx W' g) 1) (And.intro (cell_of_get (hbx W' g) 2) (cell_of_get (hbx W' g) 3))))
      have HEC := hid (fun W' (g : Grew wr W') => And.intro (cell_of_get (hbe W' g) 0) (And.intro (cell_of_get (hbe W' g) 1) (And.intro (cell_of_get (hbe W' g) 2) (cell_of_get (hbe W' g) 3))))
      have hRX := (HRX.out.mono (E := fun _ => False) (fun _ _ f => f.elim)).grew g6r
      have hRE := ((HRDE.out.kept HFR.out (fun b e => e)).mono (E := fun _ => False) (fun _ _ f => f.elim)).grew g6r
      have hsmx := good_small HGX.out scp_ok
      have hszx : x.size ≤ 400 := by have := HSX.out; have := HNL.out; omega
      have hRL : Rd ((wr.alloc (.cells #[St s] 9)).alloc (.cells #[Kv x.kind, St x.text, .slice an2 x.names.length cn2, .slice aa2 x.parts.length ca2] 28)) (fun _ => False) (.agg #[.int .i64 6, .string ⟨#[]⟩, .slice (some ⟨wr.heap.size, 0, none⟩) 1 1, .slice (some ⟨wr.heap.size + 1, 0, none⟩) 1 1]) (.mk 6 [] [s] [x]) := by
        obtain ⟨vn', va', e, hn', hr'⟩ := hRX
        simp only [Value.agg.injEq] at e
        cases e
        exact ⟨_, _, rfl, (nm_one wr s _ rfl).grew ((Fr.refl _ _).alloc _), row_one (hn'.grew ((Fr.refl _ _).alloc _)) (hr'.grew ((Fr.refl _ _).alloc _)) (fun _ _ f => f.elim) (fun f => f) (wr.heap.size + 1) (by simp)⟩
      have hsl : s.length ≤ 900 := by
        have := (scp_ok s (List.mem_of_getElem? hs)).2.1
        omega
      have hfl := free_any hRL (.mk _ _ _ _ (by simp) (by simp) (by simp) (by simpa using hsmx)) (by simp only [X.size, sizes]; omega)
      have HBD := hid (fun (W' : World) (g : Grew wr W') => bind_any (hRX.grew g) (hRX.grew g) s)
      have HFB := hid (fun (W' : World) (eB : Value) (h : Rd W' (fun _ => False) eB (.mk 9 [] [s] [x, x])) => free_any h (.mk _ _ _ _ (by simp) (by simp) (by simp) (by simpa using hsmx)) (by simp only [X.size, sizes]; omega))
      have HFE := hid (fun (W' : World) (g : Grew wr W') => free_any (hRE.grew g) (good_small HGD.out (by simp)) (by have := HSZ.out; have := HNL.out; omega))
      have HWT := hid (fun (W' : World) (g : Grew wr W') => without_any ((nm_of_rt HRT.out).grew (hgr.trans (g.trans ((Fr.refl (fun _ => False) W').alloc (.cells #[St s] 9)) (fun _ _ f => f)) (fun _ _ f => f))) (nm_one W' s _ rfl) HLN.out)
      have HGR := hid (((HG5.out.trans HFR.out (fun b hb e => by have := HWZ.out; omega)).trans g6r (fun _ _ f => f)) : Grew W wr)
      have hx9 : w6.heap.size < wr.heap.size := lt_of_get (hbx wr (Fr.refl _ _))
      clear hgr hsr hs g6r hbx hbe hRX hRE hsmx hszx hRL hsl
      have h0 := HXC.out wr (Fr.refl _ _)
      obtain ⟨x0, x1, x2, x3⟩ := h0
      go_wp2_with (first | (go_at_call 38; (with_reducible refine (h3 _).mono ?_); rintro e w9 ⟨rfl, rfl⟩; clear h3) | (go_at_call 40; (with_reducible refine hfl.mono ?_); rintro e w10 ⟨vL, ksL, rfl, hrtL, hndL, hmL, hg10⟩; clear hfl; obtain ⟨aL, cL, rfl, -⟩ := hrtL.shape; have HRTL := hid hrtL; have HNDL := hid hndL; have HML := hid hmL; have HG10 := hid ((((Fr.refl (fun _ => False) wr).alloc _).alloc _).trans hg10 (fun _ _ f => f)); have HQ1 := hid (lam_wo HLE.out HNF.out HMF.out hndL hmL); clear hrtL hndL hmL hg10 x0 x1 x2 x3; obtain ⟨x0, x1, x2, x3⟩ := HXC.out w10 HG10.out) | (go_at_call 29; (with_reducible refine (HBD.out w10 HG10.out).mono ?_); rintro e w11 ⟨eB, rfl, hrdB, hg11⟩; have HRDB := hid hrdB; have HG11 := hid (HG10.out.trans hg11 (fun _ _ f => f)); have HK11 := hid hg11; clear hrdB hg11) | (go_at_call 40; (with_reducible refine (HFB.out w11 eB HRDB.out).mono ?_); rintro e w12 ⟨vB, ksB, rfl, hrtB, hndB, hmB, hg12⟩; clear HFB; obtain ⟨aB, cB, rfl, -⟩ := hrtB.shape; have HRTB := hid hrtB; have HNDB := hid hndB; have HMB := hid hmB; have HG12 := hid (HG11.out.trans hg12 (fun _ _ f => f)); have HK12 := hid (HK11.out.trans hg12 (fun _ _ f => f)); have HQ2 := hid (let_lam HNDL.out HML.out hndB hmB); clear hrtB hndB hmB hg12; obtain ⟨y0, y1, y2, y3⟩ := HEC.out w12 HG12.out) | (go_at_call 40; (with_reducible refine (HFE.out w12 HG12.out).mono ?_); rintro e w13 ⟨vE, ksE, rfl, hrtE, hndE, hmE, hg13⟩; obtain rfl : ksE = [] := (List.eq_nil_iff_forall_not_mem.2 fun q hq => by have := good_fv HGD.out q ((hmE q).1 hq); simp at this); obtain ⟨aE, cE, rfl, -⟩ := hrtE.shape; have HG13 := hid (HG12.out.trans hg13 (fun _ _ f => f)); have HJ13 := hid hg13; clear hrtE hndE hmE hg13; simp only [srt_length, List.length_nil]) | (go_at_call 41; (with_reducible refine (HWT.out w13 HG13.out).mono ?_); rintro e w14 ⟨vW, rfl, hrtW, hg14⟩; obtain ⟨aW, cW, rfl, -⟩ := hrtW.shape; have HRTW := hid hrtW; have HG14 := hid (HG13.out.trans (((Fr.refl (fun _ => False) w13).alloc _).trans hg14 (fun _ _ f => f)) (fun _ _ f => f)); have HJ14 := hid (HJ13.out.trans (((Fr.refl (fun _ => False) w13).alloc _).trans hg14 (fun _ _ f => f)) (fun _ _ f => f)); clear hrtW hg14; have ht1 := texts_any ((nm_of_rt HRTL.out).grew (HK12.out.trans HJ14.out (fun _ _ f => f))) (nm_of_rt HRTW.out); rw [decide_eq_true HQ1.out] at ht1; simp only [srt_length] at ht1) | (go_at_call 31; (with_reducible refine ht1.mono ?_); rintro e w15 ⟨rfl, hg15⟩; clear ht1; have ht2 := texts_any ((nm_of_rt HRTB.out).grew (HJ14.out.trans hg15 (fun _ _ f => f))) ((nm_of_rt HRTL.out).grew ((HK12.out.trans HJ14.out (fun _ _ f => f)).trans hg15 (fun _ _ f => f))); rw [decide_eq_true HQ2.out] at ht2; simp only [srt_length] at ht2; have HG15 := hid (HG14.out.trans hg15 (fun _ _ f => f)); clear hg15) | (go_at_call 31; (with_reducible refine ht2.mono ?_); rintro e w16 ⟨rfl, hg16⟩; clear ht2))
      go_ret
      exact ⟨rfl, (HGR.out.trans HG15.out (fun _ _ f => f)).trans hg16 (fun _ _ f => f)⟩
end Go.Proofs.Ytddcfnjmppijjaa
