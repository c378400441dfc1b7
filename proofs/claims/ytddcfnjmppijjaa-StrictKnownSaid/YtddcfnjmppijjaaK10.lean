import Derived.Test.YtddcfnjmppijjaaU21
import Derived.Test.YtddcfnjmppijjaaU19
import Derived.Test.YtddcfnjmppijjaaM26
/-! StrictBoth's walk. -/
namespace Go.Proofs.Ytddcfnjmppijjaa
open Go.RowKit

abbrev sc8 : List Str := [[97], [98], [99]]
theorem sc8_ok : ∀ s ∈ sc8, Nme s := by
  intro s hs
  simp at hs
  rcases hs with rfl | rfl | rfl <;> exact ⟨by simp, by simp⟩
/-- terms in one block read as a row -/
theorem row_flat {w : World} {D : Nat → Prop} {g : Nat} {L : List LmD} (h : w.heap[g]? = some (.cells (L.flatMap LmD.xc).toArray 28 (0, 0))) (hrd : ∀ d ∈ L, Nm w D (.slice d.an d.x.names.length d.cn) d.x.names ∧ Row w D (.slice d.aa d.x.parts.length d.ca) d.x.parts) (hD : ¬ D g) (hl : L.length ≤ 1000) :
    Row w D (.slice (some ⟨g, 0, none⟩) L.length L.length) (L.map (·.x)) := by
  have hcell : ∀ i d, L[i]? = some d → ∀ j, j < 4 → w.cell? ⟨g, 0 + i * 4 + j, none⟩ = d.xc[j]? := fun i d hd j hj => by
    rw [Nat.zero_add, cell_of_get h, ← flat_get LmD.xlen hd hj]
    simp
  have hd : ∀ i (hi : i < L.length), L[i]? = some L[i] := fun i hi => List.getElem?_eq_getElem hi
  have := Row.mk (w := w) (D := D) (L.map (·.x)) g 0 L.length (fun i => if hi : i < L.length then .slice (L[i]).an (L[i]).x.names.length (L[i]).cn else .nilFunc) (fun i => if hi : i < L.length then .slice (L[i]).aa (L[i]).x.parts.length (L[i]).ca else .nilFunc) (by simp) (by simp [maxLen]; omega) hD
    (fun i hi => by have hi' : i < L.length := by simpa using hi
                    have := hcell i _ (hd i hi') 0 (by omega); rw [Nat.add_zero] at this; rw [this]; simp [LmD.xc])
    (fun i hi => by have hi' : i < L.length := by simpa using hi
                    have := hcell i _ (hd i hi') 1 (by omega); rw [this]; simp [LmD.xc])
    (fun i hi => by have hi' : i < L.length := by simpa using hi
                    have := hcell i _ (hd i hi') 2 (by omega); rw [this]; simp [LmD.xc, hi'])
    (fun i hi => by have hi' : i < L.length := by simpa using hi
                    have := hcell i _ (hd i hi') 3 (by omega); rw [this]; simp [LmD.xc, hi'])
    (fun i hi => by have hi' : i < L.length := by simpa using hi
                    simpa [hi'] using (hrd L[i] (List.getElem_mem hi')).1)
    (fun i hi => by have hi' : i < L.length := by simpa using hi
                    simpa [hi'] using (hrd L[i] (List.getElem_mem hi')).2)
  rw [List.length_map] at this
  exact this
theorem RS.same {w w' : World} {a a' : Option Addr} {c c' : Nat} {A A' : Bool} {ks ks' : List Str} {d d' : DS} (h : RS w a c A ks d) (k : RS w' a' c' A' ks' d') (e : d.eqv d') : A = A' ∧ ks = ks' := by
  have hA : A = A' := by
    have h1 := h.all.trans (e.1.trans k.all.symm)
    cases A <;> cases A' <;> simp_all
  subst hA
  refine ⟨rfl, ?_⟩
  cases A
  · have hn : ¬ d.all := fun z => by have := h.all.2 z; cases this
    exact sorted_eq ks ks' h.so k.so h.nd k.nd (fun s => (h.mem rfl s).trans ((e.2 hn s).trans (k.mem rfl s).symm))
  · rw [h.no rfl, k.no rfl]
theorem eqv_both (x y : X) : (dem [] (.mk 8 [] [] [x, y, y])).eqv (dem [] (.mk 10 [115, 101, 113] [] [x, y])) := by
  have e1 : dem [] (.mk 8 [] [] [x, y, y]) = (dem [] x).un ((dem [] y).mt (dem [] y)) := rfl
  have e2 : dem [] (.mk 10 [115, 101, 113] [] [x, y]) = (dem [] x).un ((dem [] y).un DS.no) := rfl
  rw [e1, e2]
  refine ⟨?_, fun hn s => ?_⟩
  · simp [DS.un, DS.mt, DS.no]
  · simp only [DS.un, DS.mt, DS.no] at hn ⊢
    simp only [not_or, and_self] at hn
    simp [hn.2]
theorem eqv_one (x : X) : (dem [] (.mk 10 [115, 101, 113] [] [x, x])).eqv (dem [] x) := by
  have e2 : dem [] (.mk 10 [115, 101, 113] [] [x, x]) = (dem [] x).un ((dem [] x).un DS.no) := rfl
  rw [e2]
  refine ⟨?_, fun hn s => ?_⟩
  · simp [DS.un, DS.no]
  · simp [DS.un, DS.no]
theorem ne_if {x y z : X} (hx : Ne x) (hy : Ne y) (hz : Ne z) : Ne (.mk 8 [] [] [x, y, z]) := ⟨.mk _ _ _ _ (by simp) (by simp) (by simp) (by simp) (by simp [hx.1, hy.1, hz.1]), .mk _ _ _ _ (by simp) (by simp) (by simp) (by simp [hx.2.1, hy.2.1, hz.2.1]), .mk _ _ _ _ (by simp) (by simp [hx.2.2, hy.2.2, hz.2.2])⟩
theorem ne_prim {t : Str} {x y : X} (ht : t.length ≤ 900) (hx : Ne x) (hy : Ne y) : Ne (.mk 10 t [] [x, y]) := ⟨.mk _ _ _ _ (by simp) (by simp) (by simp) (by simp) (by simp [hx.1, hy.1]), .mk _ _ _ _ ht (by simp) (by simp) (by simp [hx.2.1, hy.2.1]), .mk _ _ _ _ (by simp) (by simp [hx.2.2, hy.2.2])⟩
theorem good_ne8 {x : X} (h : Good sc8 x) : Ne x := ⟨good_so h, good_small h sc8_ok, good_fo h⟩

set_option maxHeartbeats 8000000 in
set_option maxRecDepth 100000 in
theorem sboth_walk {W : World} {v u : Value} {l m : List RT} (h : RRow W (fun _ => False) v l) (hu : RRow W (fun _ => False) u m) (n : Int) : Calls Try.prog 7 #[v, u, .int .i64 n] W fun e W' => e = .returned (.bool true) ∧ Grew W W' := by
  have hk := known8_any W
  have hf := fun W1 (g : Grew W W1) => few_any (h.kept g (fun _ f => f.elim))
  have HF2 := hid (fun W1 (g : Grew W W1) => few_any (hu.kept g (fun _ f => f.elim)))
  have HMK := hid (fun (mb : Nat) (hmb : W.heap.size ≤ mb) => make_any (mb := mb) (h.mono (E := fun b => b = mb) (fun b hb e => by omega)))
  have HMK2 := hid (fun (mb : Nat) (hmb : W.heap.size ≤ mb) => make_any (mb := mb) (hu.mono (E := fun b => b = mb) (fun b hb e => by omega)))
  obtain ⟨ad, cap, rfl, -⟩ := h.shape
  obtain ⟨ad2, cap2, rfl, -⟩ := hu.shape
  clear h hu
  go_enter Try.func7, Try.ntmps7
  go_upto_region 3 with (go_at_call 16; (with_reducible refine hk.mono ?_); rintro e w1 ⟨rfl, hg1⟩; clear hk)
  have hcall := hf _ hg1
  have HG1 := hid hg1
  clear hf hg1
  go_wp2_with fail
  refine hcall.mono ?_
  rintro e w2 ⟨b, rfl, hb, rfl⟩
  clear hcall
  cases b
  · clear hb
    go_wp2
    go_ret
    exact ⟨rfl, HG1.out⟩
  have hcall := HF2.out _ HG1.out
  have HB := hid (hb rfl)
  clear hb
  go_wp2_with fail
  refine hcall.mono ?_
  rintro e w2 ⟨b, rfl, hb, rfl⟩
  clear hcall
  cases b
  · clear hb
    go_wp2
    go_ret
    exact ⟨rfl, HG1.out⟩
  have HB2 := hid (hb rfl)
  clear hb
  obtain ⟨W5, hW5⟩ : ∃ q : World, q = (w1.alloc (.cells #[.int .i64 0] 56)).alloc (.cells #[.string ⟨#[97]⟩, .string ⟨#[98]⟩, .string ⟨#[99]⟩] 9) := ⟨_, rfl⟩
  have gW5 : Grew W W5 := HG1.out.trans (by rw [hW5]; exact ((Fr.refl _ _).alloc _).alloc _) (fun _ _ f => f)
  have hs5 : W5.heap.size = w1.heap.size + 2 := by rw [hW5]; simp
  have hbs : W5.heap[w1.heap.size + 1]? = some (.cells #[.string ⟨#[97]⟩, .string ⟨#[98]⟩, .string ⟨#[99]⟩] 9 (0, 0)) := by rw [hW5]; exact heap_a2 w1 _ _
  have hmk : Mk W5 w1.heap.size 0 := by rw [hW5]; exact ((Fr.refl (fun _ => False) _).alloc _).get (heap_alloc_new w1 _) (fun f => f)
  have hsc : ∀ (w' : World), w'.heap[w1.heap.size + 1]? = some (.cells #[.string ⟨#[97]⟩, .string ⟨#[98]⟩, .string ⟨#[99]⟩] 9 (0, 0)) → ∀ D : Nat → Prop, ¬ D (w1.heap.size + 1) → Nm w' D (.slice (some ⟨w1.heap.size + 1, 0, none⟩) 3 3) sc8 := fun w' e D hD => ⟨_, 3, rfl, Nat.le_refl _, by simp [maxLen], .inr ⟨_, 0, rfl, hD, fun i hi => by
    have hi3 : i = 0 ∨ i = 1 ∨ i = 2 := by simp at hi; omega
    rw [Nat.zero_add, cell_of_get e]
    rcases hi3 with rfl | rfl | rfl <;> rfl⟩⟩
  have hnl := HB.out
  have hnm := HB2.out
  have hw1 : W.heap.size ≤ w1.heap.size := HG1.out.size
  have hM := HMK.out w1.heap.size (by omega) W5 6 n 0 _ sc8 (Grew.any gW5) hmk (by omega) (hsc W5 hbs _ (by omega)) sc8_ok (by simp; omega)
  have HM2 := hid (fun (w6 : World) (N1 : Nat) (hfr : Fr (fun b => b = w1.heap.size) W5 w6) (hm6 : Mk w6 w1.heap.size N1) (hN : N1 ≤ 400) => HMK2.out w1.heap.size (by omega) w6 9 n N1 _ sc8 ((Grew.any gW5).trans hfr (fun _ _ e => e)) hm6 (by omega) (hsc w6 (hfr.get hbs (by omega)) _ (by omega)) sc8_ok (by simp; omega))
  have HNN := hid (And.intro hnl hnm)
  have HS5 := hid hs5
  have HG5 := hid gW5
  clear gW5 hs5 hbs hmk hsc hnl hnm hw1 HMK HMK2 HB HB2
  go_wp2_with fail
  rw [← hW5]
  clear hW5
  refine hM.mono ?_
  clear hM
  rintro e w6 ⟨e', x, N1, rfl, hrd, hgd, hsz, hm6, -, hN1, hfr⟩
  have hM2 := HM2.out w6 N1 hfr hm6 (by have := HNN.out.1; omega)
  have HFR := hid hfr
  have HGX := hid hgd
  have HSX := hid (show x.size ≤ 400 by have := HNN.out.1; omega)
  have HRX := hid hrd
  obtain ⟨vn, va, rfl, hn, hr⟩ := hrd
  obtain ⟨an, cn, rfl, -⟩ := hn.shape
  obtain ⟨aa, ca, rfl, -⟩ := hr.shape
  clear hn hr hgd hsz hfr hm6 HM2
  go_upto_region 8 with (go_at_call 30; (with_reducible refine hM2.mono ?_); rintro e w7 ⟨e', y, N2, rfl, hrd2, hgd2, hsz2, -, -, -, hfr2⟩; clear hM2; have HFR2 := hid hfr2; have HGY := hid hgd2; have HSY := hid (show y.size ≤ 400 by have := HNN.out.2; omega); have HRY := hid hrd2; obtain ⟨vn2, va2, rfl, hn2, hr2⟩ := hrd2; obtain ⟨an2, cn2, rfl, -⟩ := hn2.shape; obtain ⟨aa2, ca2, rfl, -⟩ := hr2.shape; clear hn2 hr2 hgd2 hsz2 hfr2)
  obtain ⟨WA, hWA⟩ : ∃ q : World, q = (w7.alloc (.cells #[Kv x.kind, St x.text, .slice an x.names.length cn, .slice aa x.parts.length ca] 28)).alloc (.cells #[Kv y.kind, St y.text, .slice an2 y.names.length cn2, .slice aa2 y.parts.length ca2] 28) := ⟨_, rfl⟩
  have g7A : Grew w7 WA := by rw [hWA]; exact ((Fr.refl _ _).alloc _).alloc _
  have hbx : WA.heap[w7.heap.size]? = some (.cells #[Kv x.kind, St x.text, .slice an x.names.length cn, .slice aa x.parts.length ca] 28 (0, 0)) := by rw [hWA]; exact ((Fr.refl (fun _ => False) _).alloc _).get (heap_alloc_new w7 _) (fun f => f)
  have hby : WA.heap[w7.heap.size + 1]? = some (.cells #[Kv y.kind, St y.text, .slice an2 y.names.length cn2, .slice aa2 y.parts.length ca2] 28 (0, 0)) := by rw [hWA]; exact heap_a2 w7 _ _
  have g6A : Fr (fun b => b = w1.heap.size) w6 WA := HFR2.out.trans g7A (fun _ _ f => f.elim)
  have HRDX := hid ((HRX.out.kept g6A (fun b e => by have := HS5.out; omega)).mono (E := fun _ => False) (fun _ _ f => f.elim))
  have HRDY := hid ((HRY.out.kept g7A (fun b f => f.elim)).mono (E := fun _ => False) (fun _ _ f => f.elim))
  have HGA := hid (((HG5.out.trans HFR.out (fun b hb e => by have := HG1.out.size; omega)).trans g6A (fun b hb e => by have := HG1.out.size; omega)) : Grew W WA)
  have HCX := hid (And.intro (cell_of_get hbx 0) (And.intro (cell_of_get hbx 1) (And.intro (cell_of_get hbx 2) (cell_of_get hbx 3))))
  have HCY := hid (And.intro (cell_of_get hby 0) (And.intro (cell_of_get hby 1) (And.intro (cell_of_get hby 2) (cell_of_get hby 3))))
  have HNX := hid (good_ne8 HGX.out)
  have HNY := hid (good_ne8 HGY.out)
  obtain ⟨xn, xr⟩ : Nm WA (fun _ => False) (.slice an x.names.length cn) x.names ∧ Row WA (fun _ => False) (.slice aa x.parts.length ca) x.parts := by
    obtain ⟨_, _, e, q1, q2⟩ := HRDX.out
    simp only [Value.agg.injEq, Array.mk.injEq, List.cons.injEq, true_and, and_true] at e
    obtain ⟨rfl, rfl⟩ := e
    exact ⟨q1, q2⟩
  obtain ⟨yn, yr⟩ : Nm WA (fun _ => False) (.slice an2 y.names.length cn2) y.names ∧ Row WA (fun _ => False) (.slice aa2 y.parts.length ca2) y.parts := by
    obtain ⟨_, _, e, q1, q2⟩ := HRDY.out
    simp only [Value.agg.injEq, Array.mk.injEq, List.cons.injEq, true_and, and_true] at e
    obtain ⟨rfl, rfl⟩ := e
    exact ⟨q1, q2⟩
  have HXR := hid (And.intro xn xr)
  have HYR := hid (And.intro yn yr)
  have HND := hid (fun w' : World => show Nd w' (fun _ => False) (.slice none 0 0) [] from ⟨_, _, rfl, Nat.le_refl _, by simp [maxLen], .inl rfl⟩)
  rw [← hWA]
  clear hWA g7A hbx hby g6A HFR HFR2 HRX HRY HG1 HG5 HS5 xn xr yn yr
  obtain ⟨x0, x1, x2, x3⟩ := HCX.out
  obtain ⟨y0, y1, y2, y3⟩ := HCY.out
  have ga : Grew WA (WA.alloc (.cells #[Kv x.kind, St x.text, .slice an x.names.length cn, .slice aa x.parts.length ca, Kv y.kind, St y.text, .slice an2 y.names.length cn2, .slice aa2 y.parts.length ca2, Kv y.kind, St y.text, .slice an2 y.names.length cn2, .slice aa2 y.parts.length ca2] 28)) := (Fr.refl _ _).alloc _
  have hrow := row_flat (D := fun _ => False) (w := WA.alloc (.cells #[Kv x.kind, St x.text, .slice an x.names.length cn, .slice aa x.parts.length ca, Kv y.kind, St y.text, .slice an2 y.names.length cn2, .slice aa2 y.parts.length ca2, Kv y.kind, St y.text, .slice an2 y.names.length cn2, .slice aa2 y.parts.length ca2] 28)) (g := WA.heap.size) (L := [⟨[], x, an, cn, aa, ca⟩, ⟨[], y, an2, cn2, aa2, ca2⟩, ⟨[], y, an2, cn2, aa2, ca2⟩]) (heap_alloc_new WA _) (fun d hd => by
    simp at hd
    rcases hd with rfl | rfl
    · exact ⟨HXR.out.1.grew ga, HXR.out.2.grew ga⟩
    · exact ⟨HYR.out.1.grew ga, HYR.out.2.grew ga⟩) (fun f => f) (by simp)
  have hcall := demands_any (HND.out _) (show Rd (WA.alloc (.cells #[Kv x.kind, St x.text, .slice an x.names.length cn, .slice aa x.parts.length ca, Kv y.kind, St y.text, .slice an2 y.names.length cn2, .slice aa2 y.parts.length ca2, Kv y.kind, St y.text, .slice an2 y.names.length cn2, .slice aa2 y.parts.length ca2] 28)) (fun _ => False) (.agg #[Kv 8, St [], .slice none 0 0, .slice (some ⟨WA.heap.size, 0, none⟩) 3 3]) (.mk 8 [] [] [x, y, y]) from ⟨_, _, rfl, Nm.nil _ _, hrow⟩) (ne_if HNX.out HNY.out HNY.out).1 (ne_if HNX.out HNY.out HNY.out).2.1 (by have := HSX.out; have := HSY.out; simp [X.size, sizes]; omega) _ (Fr.refl _ _)
  have HGA2 := hid ga
  clear ga hrow
  go_wp2_with fail
  refine hcall.mono ?_
  rintro e w8 ⟨aA, cA, A, ka, rfl, hrsA, hg8⟩
  have HRA := hid hrsA
  have HG8 := hid (HGA2.out.trans hg8 (fun _ _ f => f))
  clear hcall x0 x1 x2 x3 y0 y1 y2 y3 hrsA hg8 HGA2
  have HWw9 := hid (show Grew WA w8 from HG8.out)
  obtain ⟨x0, x1, x2, x3⟩ := And.intro (HWw9.out.cell HCX.out.1 (fun f => f)) (And.intro (HWw9.out.cell HCX.out.2.1 (fun f => f)) (And.intro (HWw9.out.cell HCX.out.2.2.1 (fun f => f)) (HWw9.out.cell HCX.out.2.2.2 (fun f => f))))
  obtain ⟨y0, y1, y2, y3⟩ := And.intro (HWw9.out.cell HCY.out.1 (fun f => f)) (And.intro (HWw9.out.cell HCY.out.2.1 (fun f => f)) (And.intro (HWw9.out.cell HCY.out.2.2.1 (fun f => f)) (HWw9.out.cell HCY.out.2.2.2 (fun f => f))))
  have ga : Grew w8 (w8.alloc (.cells #[Kv x.kind, St x.text, .slice an x.names.length cn, .slice aa x.parts.length ca, Kv y.kind, St y.text, .slice an2 y.names.length cn2, .slice aa2 y.parts.length ca2] 28)) := (Fr.refl _ _).alloc _
  have hrow := row_flat (D := fun _ => False) (w := w8.alloc (.cells #[Kv x.kind, St x.text, .slice an x.names.length cn, .slice aa x.parts.length ca, Kv y.kind, St y.text, .slice an2 y.names.length cn2, .slice aa2 y.parts.length ca2] 28)) (g := w8.heap.size) (L := [⟨[], x, an, cn, aa, ca⟩, ⟨[], y, an2, cn2, aa2, ca2⟩]) (heap_alloc_new w8 _) (fun d hd => by
    simp at hd
    rcases hd with rfl | rfl
    all_goals first | exact ⟨(HXR.out.1.grew HWw9.out).grew ga, (HXR.out.2.grew HWw9.out).grew ga⟩ | exact ⟨(HYR.out.1.grew HWw9.out).grew ga, (HYR.out.2.grew HWw9.out).grew ga⟩) (fun f => f) (by simp)
  have hcall := demands_any (HND.out _) (show Rd (w8.alloc (.cells #[Kv x.kind, St x.text, .slice an x.names.length cn, .slice aa x.parts.length ca, Kv y.kind, St y.text, .slice an2 y.names.length cn2, .slice aa2 y.parts.length ca2] 28)) (fun _ => False) (.agg #[Kv 10, St [115, 101, 113], .slice none 0 0, .slice (some ⟨w8.heap.size, 0, none⟩) 2 2]) (.mk 10 [115, 101, 113] [] [x, y]) from ⟨_, _, rfl, Nm.nil _ _, hrow⟩) (ne_prim (t := [115, 101, 113]) (by simp) HNX.out HNY.out).1 (ne_prim (t := [115, 101, 113]) (by simp) HNX.out HNY.out).2.1 (by have := HSX.out; have := HSY.out; simp [X.size, sizes]; omega) _ (Fr.refl _ _)
  have HGQ := hid ga
  clear ga hrow
  go_wp2_with fail
  refine hcall.mono ?_
  rintro e w9 ⟨aB, cB, B, kb, rfl, hrsN, hgN⟩
  have HRB := hid hrsN
  have HG9 := hid (HGQ.out.trans hgN (fun _ _ f => f))
  clear hcall x0 x1 x2 x3 y0 y1 y2 y3 hrsN hgN HGQ
  have HWw10 := hid (show Grew WA w9 from HG8.out.trans HG9.out (fun _ _ f => f))
  obtain ⟨x0, x1, x2, x3⟩ := And.intro (HWw10.out.cell HCX.out.1 (fun f => f)) (And.intro (HWw10.out.cell HCX.out.2.1 (fun f => f)) (And.intro (HWw10.out.cell HCX.out.2.2.1 (fun f => f)) (HWw10.out.cell HCX.out.2.2.2 (fun f => f))))
  obtain ⟨y0, y1, y2, y3⟩ := And.intro (HWw10.out.cell HCY.out.1 (fun f => f)) (And.intro (HWw10.out.cell HCY.out.2.1 (fun f => f)) (And.intro (HWw10.out.cell HCY.out.2.2.1 (fun f => f)) (HWw10.out.cell HCY.out.2.2.2 (fun f => f))))
  have ga : Grew w9 (w9.alloc (.cells #[Kv x.kind, St x.text, .slice an x.names.length cn, .slice aa x.parts.length ca, Kv x.kind, St x.text, .slice an x.names.length cn, .slice aa x.parts.length ca] 28)) := (Fr.refl _ _).alloc _
  have hrow := row_flat (D := fun _ => False) (w := w9.alloc (.cells #[Kv x.kind, St x.text, .slice an x.names.length cn, .slice aa x.parts.length ca, Kv x.kind, St x.text, .slice an x.names.length cn, .slice aa x.parts.length ca] 28)) (g := w9.heap.size) (L := [⟨[], x, an, cn, aa, ca⟩, ⟨[], x, an, cn, aa, ca⟩]) (heap_alloc_new w9 _) (fun d hd => by
    simp at hd
    rcases hd with rfl
    all_goals first | exact ⟨(HXR.out.1.grew HWw10.out).grew ga, (HXR.out.2.grew HWw10.out).grew ga⟩ | exact ⟨(HYR.out.1.grew HWw10.out).grew ga, (HYR.out.2.grew HWw10.out).grew ga⟩) (fun f => f) (by simp)
  have hcall := demands_any (HND.out _) (show Rd (w9.alloc (.cells #[Kv x.kind, St x.text, .slice an x.names.length cn, .slice aa x.parts.length ca, Kv x.kind, St x.text, .slice an x.names.length cn, .slice aa x.parts.length ca] 28)) (fun _ => False) (.agg #[Kv 10, St [115, 101, 113], .slice none 0 0, .slice (some ⟨w9.heap.size, 0, none⟩) 2 2]) (.mk 10 [115, 101, 113] [] [x, x]) from ⟨_, _, rfl, Nm.nil _ _, hrow⟩) (ne_prim (t := [115, 101, 113]) (by simp) HNX.out HNX.out).1 (ne_prim (t := [115, 101, 113]) (by simp) HNX.out HNX.out).2.1 (by have := HSX.out; have := HSY.out; simp [X.size, sizes]; omega) _ (Fr.refl _ _)
  have HGQ := hid ga
  clear ga hrow
  go_wp2_with fail
  refine hcall.mono ?_
  rintro e w10 ⟨aC, cC, C, kc, rfl, hrsN, hgN⟩
  have HRC := hid hrsN
  have HG10 := hid (HGQ.out.trans hgN (fun _ _ f => f))
  clear hcall x0 x1 x2 x3 y0 y1 y2 y3 hrsN hgN HGQ
  have HWw11 := hid (show Grew WA w10 from (HG8.out.trans HG9.out (fun _ _ f => f)).trans HG10.out (fun _ _ f => f))
  obtain ⟨x0, x1, x2, x3⟩ := And.intro (HWw11.out.cell HCX.out.1 (fun f => f)) (And.intro (HWw11.out.cell HCX.out.2.1 (fun f => f)) (And.intro (HWw11.out.cell HCX.out.2.2.1 (fun f => f)) (HWw11.out.cell HCX.out.2.2.2 (fun f => f))))
  obtain ⟨y0, y1, y2, y3⟩ := And.intro (HWw11.out.cell HCY.out.1 (fun f => f)) (And.intro (HWw11.out.cell HCY.out.2.1 (fun f => f)) (And.intro (HWw11.out.cell HCY.out.2.2.1 (fun f => f)) (HWw11.out.cell HCY.out.2.2.2 (fun f => f))))
  have hcall := demands_any (HND.out _) (HRDX.out.grew HWw11.out) HNX.out.1 HNX.out.2.1 (by have := HSX.out; omega) _ (Fr.refl _ _)
  have HGQ := hid (Fr.refl (fun _ => False) w10)
  go_wp2_with fail
  refine hcall.mono ?_
  rintro e w11 ⟨aQ, cQ, Q, kq, rfl, hrsN, hgN⟩
  have HRD := hid hrsN
  have HG11 := hid (HGQ.out.trans hgN (fun _ _ f => f))
  clear hcall x0 x1 x2 x3 y0 y1 y2 y3 hrsN hgN HGQ
  have hab := RS.same HRA.out HRB.out (eqv_both x y)
  have hcd := RS.same HRC.out HRD.out (eqv_one x)
  obtain ⟨rfl, rfl⟩ := hab
  obtain ⟨rfl, rfl⟩ := hcd
  have HT1 := hid (fun (w : World) (g : Grew w11 w) => texts_any (HRA.out.nm.grew ((HG9.out.trans (HG10.out.trans HG11.out (fun _ _ f => f)) (fun _ _ f => f)).trans g (fun _ _ f => f))) (HRB.out.nm.grew ((HG10.out.trans HG11.out (fun _ _ f => f)).trans g (fun _ _ f => f))))
  have HT2 := hid (fun (w : World) (g : Grew w11 w) => texts_any (HRC.out.nm.grew (HG11.out.trans g (fun _ _ f => f))) (HRD.out.nm.grew g))
  have HGE := hid ((((HGA.out.trans HG8.out (fun _ _ f => f)).trans HG9.out (fun _ _ f => f)).trans HG10.out (fun _ _ f => f)).trans HG11.out (fun _ _ f => f) : Grew W w11)
  go_upto_region 12 with (fail)
  cases A <;> cases C <;> (
    go_wp2_with fail
    refine (HT1.out _ (Fr.refl _ _)).mono ?_
    rintro e w12 ⟨rfl, hg12⟩
    simp only [decide_true]
    have hcall := HT2.out _ hg12
    have HG12 := hid hg12
    clear hg12
    go_wp2_with fail
    refine hcall.mono ?_
    rintro e w13 ⟨rfl, hg13⟩
    simp only [decide_true]
    have HG13 := hid hg13
    clear hcall hg13
    go_wp2
    go_ret
    exact ⟨rfl, (HGE.out.trans HG12.out (fun _ _ f => f)).trans HG13.out (fun _ _ f => f)⟩)
end Go.Proofs.Ytddcfnjmppijjaa
