import Derived.Test.YtddcfnjmppijjaaM10
/-! Make's walk: choices. -/
namespace Go.Proofs.Ytddcfnjmppijjaa
open Go.RowKit

def addIf (b : Bool) (c : Nat) : Nat := if b then c else 0

/-- the counter while three parts are made -/
def I3 (mb N c0 c1 c2 : Nat) (listed : Array Bool) (_ : Act) (w : World) : Prop :=
  ∃ N2, Mk w mb N2 ∧ N ≤ N2 ∧ N2 ≤ N + addIf (listed.getD 3 false) c0 + addIf (listed.getD 7 false) c1 + addIf (listed.getD 11 false) c2
section
variable {mb N c0 c1 c2 : Nat} {listed : Array Bool} {a : Act} {w : World}
theorem addIf_le (b : Bool) (c : Nat) : addIf b c ≤ c := by cases b <;> simp [addIf]
theorem I3.pure (h : I3 mb N c0 c1 c2 listed a w) {i : Nat} (a2 : Act) (h1 : i ≠ 3 ∧ i ≠ 7 ∧ i ≠ 11) : I3 mb N c0 c1 c2 (listed.setIfInBounds i true) a2 w := by
  unfold I3 at *
  rw [getD_ne h1.1, getD_ne h1.2.1, getD_ne h1.2.2]; exact h
theorem I3.le (h : I3 mb N c0 c1 c2 listed a w) : ∃ N2, Mk w mb N2 ∧ N ≤ N2 ∧ N2 ≤ N + c0 + c1 + c2 := by
  obtain ⟨N2, h1, h2, h3⟩ := h
  have := addIf_le (listed.getD 3 false) c0
  have := addIf_le (listed.getD 7 false) c1
  have := addIf_le (listed.getD 11 false) c2
  exact ⟨N2, h1, h2, by omega⟩
theorem I3.le0 (h : I3 mb N c0 c1 c2 listed a w) (hn : listed.getD 3 false = false) : ∃ N2, Mk w mb N2 ∧ N ≤ N2 ∧ N2 + c0 ≤ N + c0 + c1 + c2 := by
  obtain ⟨N2, h1, h2, h3⟩ := h
  rw [hn] at h3
  have := addIf_le (listed.getD 7 false) c1
  have := addIf_le (listed.getD 11 false) c2
  have e : addIf false c0 = 0 := rfl
  exact ⟨N2, h1, h2, by omega⟩
theorem I3.le1 (h : I3 mb N c0 c1 c2 listed a w) (hn : listed.getD 7 false = false) : ∃ N2, Mk w mb N2 ∧ N ≤ N2 ∧ N2 + c1 ≤ N + c0 + c1 + c2 := by
  obtain ⟨N2, h1, h2, h3⟩ := h
  rw [hn] at h3
  have := addIf_le (listed.getD 3 false) c0
  have := addIf_le (listed.getD 11 false) c2
  have e : addIf false c1 = 0 := rfl
  exact ⟨N2, h1, h2, by omega⟩
theorem I3.le2 (h : I3 mb N c0 c1 c2 listed a w) (hn : listed.getD 11 false = false) : ∃ N2, Mk w mb N2 ∧ N ≤ N2 ∧ N2 + c2 ≤ N + c0 + c1 + c2 := by
  obtain ⟨N2, h1, h2, h3⟩ := h
  rw [hn] at h3
  have := addIf_le (listed.getD 3 false) c0
  have := addIf_le (listed.getD 7 false) c1
  have e : addIf false c2 = 0 := rfl
  exact ⟨N2, h1, h2, by omega⟩
theorem mk_one {w : World} {mb A B : Nat} (h : Mk w mb A) (k : Mk w mb B) : A = B := by
  unfold Mk at *
  rw [h] at k
  have e : (A : Int) = (B : Int) := by simpa using k
  omega
theorem I3.call0 (h : I3 mb N c0 c1 c2 listed a w) (hn : listed.getD 3 false = false) (hl : 3 < listed.size) {a2 : Act} {w2 : World} {M : Nat} (hM : Mk w mb M) (hadd : ∃ N3, Mk w2 mb N3 ∧ M ≤ N3 ∧ N3 ≤ M + c0) : I3 mb N c0 c1 c2 (listed.setIfInBounds 3 true) a2 w2 := by
  obtain ⟨N2, h1, h2, h3⟩ := h
  obtain ⟨N3, k1, k2, k3⟩ := hadd
  have := mk_one h1 hM
  rw [hn] at h3
  refine ⟨N3, k1, by omega, ?_⟩
  rw [getD_at hl, getD_ne (by decide), getD_ne (by decide)]
  simp only [addIf] at *
  simp only [Bool.false_eq_true, if_false, if_true] at *
  omega
theorem I3.call1 (h : I3 mb N c0 c1 c2 listed a w) (hn : listed.getD 7 false = false) (hl : 7 < listed.size) {a2 : Act} {w2 : World} {M : Nat} (hM : Mk w mb M) (hadd : ∃ N3, Mk w2 mb N3 ∧ M ≤ N3 ∧ N3 ≤ M + c1) : I3 mb N c0 c1 c2 (listed.setIfInBounds 7 true) a2 w2 := by
  obtain ⟨N2, h1, h2, h3⟩ := h
  obtain ⟨N3, k1, k2, k3⟩ := hadd
  have := mk_one h1 hM
  rw [hn] at h3
  refine ⟨N3, k1, by omega, ?_⟩
  rw [getD_ne (by decide), getD_at hl, getD_ne (by decide)]
  simp only [addIf] at *
  simp only [Bool.false_eq_true, if_false, if_true] at *
  omega
theorem I3.call2 (h : I3 mb N c0 c1 c2 listed a w) (hn : listed.getD 11 false = false) (hl : 11 < listed.size) {a2 : Act} {w2 : World} {M : Nat} (hM : Mk w mb M) (hadd : ∃ N3, Mk w2 mb N3 ∧ M ≤ N3 ∧ N3 ≤ M + c2) : I3 mb N c0 c1 c2 (listed.setIfInBounds 11 true) a2 w2 := by
  obtain ⟨N2, h1, h2, h3⟩ := h
  obtain ⟨N3, k1, k2, k3⟩ := hadd
  have := mk_one h1 hM
  rw [hn] at h3
  refine ⟨N3, k1, by omega, ?_⟩
  rw [getD_ne (by decide), getD_ne (by decide), getD_at hl]
  simp only [addIf] at *
  simp only [Bool.false_eq_true, if_false, if_true] at *
  omega
end

/-- what a part's slot holds -/
def FT (wr : World) (S' : List Str) (c : Nat) (v : Value) (w : World) : Prop :=
  ∃ (x : X) (an : Option Addr) (cn : Nat) (ax : Option Addr) (cx : Nat), v = .agg #[Kv x.kind, St x.text, .slice an x.names.length cn, .slice ax x.parts.length cx] ∧ Nm w (fun k => k < wr.heap.size) (.slice an x.names.length cn) x.names ∧ Row w (fun k => k < wr.heap.size) (.slice ax x.parts.length cx) x.parts ∧ Good S' x ∧ x.size ≤ c
theorem FT.stays {wr : World} {S' : List Str} {c mb : Nat} (hmb : mb < wr.heap.size) : ∀ v w w', Fr (fun k => k = mb) w w' → FT wr S' c v w → FT wr S' c v w' := by
  rintro v w w' hf ⟨x, an, cn, ax, cx, h1, h2, h3, h4⟩
  exact ⟨x, an, cn, ax, cx, h1, h2.kept hf (fun b e => by subst e; exact hmb), h3.kept hf (fun b e => by subst e; exact hmb), h4⟩
theorem FT.of {wr w w3 : World} {mb N2 c : Nat} {S' : List Str} {e : Ending} (hS : Fr (fun k => k = mb) wr w) (h : MkPost w mb N2 S' c e w3) :
    ∃ v, e = .returned v ∧ FT wr S' c v w3 ∧ Fr (fun k => k = mb) w w3 ∧ ∃ N3, Mk w3 mb N3 ∧ N2 ≤ N3 ∧ N3 ≤ N2 + c := by
  obtain ⟨e', x, N3, rfl, ⟨vx, vp, rfl, hnm, hrow⟩, hgd, hsz, hmk, hn1, hn2, hfr⟩ := h
  obtain ⟨an, cn, rfl, -⟩ := hnm.shape
  obtain ⟨ax, cx, rfl, -⟩ := hrow.shape
  have hs := hS.size
  exact ⟨_, rfl, ⟨x, an, cn, ax, cx, rfl, hnm.mono (fun b _ e => by omega), hrow.mono (fun b _ e => by omega), hgd, hsz⟩, hfr, N3, hmk, hn1, hn2⟩

theorem row_three {w : World} {D E : Nat → Prop} {x y z : X} {n0 p0 n1 p1 n2 p2 : Value} (h0 : Nm w D n0 x.names) (k0 : Row w D p0 x.parts) (h1 : Nm w D n1 y.names) (k1 : Row w D p1 y.parts) (h2 : Nm w D n2 z.names) (k2 : Row w D p2 z.parts)
    (hE : ∀ b, b < w.heap.size → E b → D b) (hn : ¬ E w.heap.size) (o : Nat) (ho : o = w.heap.size) :
    Row (w.alloc (.cells #[Kv x.kind, St x.text, n0, p0, Kv y.kind, St y.text, n1, p1, Kv z.kind, St z.text, n2, p2] 28)) E (.slice (some ⟨o, 0, none⟩) 3 3) [x, y, z] := by
  subst ho
  have hg : Grew w (w.alloc (.cells #[Kv x.kind, St x.text, n0, p0, Kv y.kind, St y.text, n1, p1, Kv z.kind, St z.text, n2, p2] 28)) := (Fr.refl _ _).alloc _
  have hb := heap_alloc_new w (.cells #[Kv x.kind, St x.text, n0, p0, Kv y.kind, St y.text, n1, p1, Kv z.kind, St z.text, n2, p2] 28)
  refine .mk [x, y, z] w.heap.size 0 3 (fun i => match i with | 0 => n0 | 1 => n1 | _ => n2) (fun i => match i with | 0 => p0 | 1 => p1 | _ => p2) (Nat.le_refl _) (by simp [maxLen]) hn ?_ ?_ ?_ ?_ ?_ ?_
  all_goals
    intro i hi
    obtain rfl | rfl | rfl : i = 0 ∨ i = 1 ∨ i = 2 := by simp at hi; omega
  · exact cell_of_get hb 0
  · exact cell_of_get hb 4
  · exact cell_of_get hb 8
  · exact cell_of_get hb 1
  · exact cell_of_get hb 5
  · exact cell_of_get hb 9
  · exact cell_of_get hb 2
  · exact cell_of_get hb 6
  · exact cell_of_get hb 10
  · exact cell_of_get hb 3
  · exact cell_of_get hb 7
  · exact cell_of_get hb 11
  · exact (h0.mono hE).grew hg
  · exact (h1.mono hE).grew hg
  · exact (h2.mono hE).grew hg
  · exact (k0.mono hE).grew hg
  · exact (k1.mono hE).grew hg
  · exact (k2.mono hE).grew hg

theorem if_done {w' W w5 : World} {mb N N3 c r : Nat} {S : List Str} (hg : Grew w' W) (hr0 : w'.heap.size ≤ r) (hr1 : r < W.heap.size) (hmb : mb < w'.heap.size) (hf : Fr (fun k => k = mb) W w5)
    {x y z : X} {n0 p0 n1 p1 n2 p2 : Value} (h0 : Nm w5 (fun k => k < W.heap.size) n0 x.names) (k0 : Row w5 (fun k => k < W.heap.size) p0 x.parts) (h1 : Nm w5 (fun k => k < W.heap.size) n1 y.names) (k1 : Row w5 (fun k => k < W.heap.size) p1 y.parts)
    (h2 : Nm w5 (fun k => k < W.heap.size) n2 z.names) (k2 : Row w5 (fun k => k < W.heap.size) p2 z.parts) (gx : Good S x) (gy : Good S y) (gz : Good S z) (hs : 1 + (x.size + (y.size + z.size)) ≤ c) (hm : Mk w5 mb N3) (hn1 : N ≤ N3) (hn2 : N3 ≤ N + c) (u0 u1 u2 u3 : Value) (o : Nat) (ho : o = w5.heap.size) :
    MkPost w' mb N S c (.returned (.agg #[Kv 8, St [], .slice none 0 0, .slice (some ⟨o, 0, none⟩) 3 3])) ((set4 w5 r u0 u1 u2 u3).alloc (.cells #[Kv x.kind, St x.text, n0, p0, Kv y.kind, St y.text, n1, p1, Kv z.kind, St z.text, n2, p2] 28)) := by
  have hsz1 := hg.size
  have hsz2 := hf.size
  have h4 := set4_fr w5 r u0 u1 u2 u3
  have hsz : (set4 w5 r u0 u1 u2 u3).heap.size = w5.heap.size := by simp [set4, World.setCell]
  generalize set4 w5 r u0 u1 u2 u3 = w6 at *
  have ha : Grew w6 (w6.alloc (.cells #[Kv x.kind, St x.text, n0, p0, Kv y.kind, St y.text, n1, p1, Kv z.kind, St z.text, n2, p2] 28)) := (Fr.refl _ _).alloc _
  have hD : ∀ b, b = r → b < W.heap.size := fun b e => by omega
  have hrow := row_three (E := fun k => k < w'.heap.size) (h0.kept h4 hD) (k0.kept h4 hD) (h1.kept h4 hD) (k1.kept h4 hD) (h2.kept h4 hD) (k2.kept h4 hD) (fun b _ e => by omega) (by omega) o (by omega)
  refine ⟨_, .mk 8 [] [] [x, y, z], N3, rfl, ⟨_, _, rfl, ⟨none, 0, rfl, Nat.le_refl _, Nat.zero_le _, .inl rfl⟩, hrow⟩, ?_, ?_, Mk.grew (h4.get hm (by omega)) ha, hn1, hn2, ?_⟩
  · refine .iff S _ rfl (fun q hq => ?_)
    simp only [List.mem_cons, List.not_mem_nil, or_false] at hq
    rcases hq with rfl | rfl | rfl
    · exact gx
    · exact gy
    · exact gz
  · simp only [X.size, sizes]; omega
  · exact (((Grew.any hg).trans hf (fun _ _ e => e)).trans h4 (fun k hk e => by omega)).trans ha (fun _ _ e => e.elim)

set_option maxHeartbeats 4000000 in
set_option maxRecDepth 100000 in
theorem make_9 {w : World} {mb : Nat} {va : Value} {l : List RT} (h : Parts w mb va l) {w' : World} (k n : Int) (N : Nat) (vs : Value) (S : List Str) (kk : Nat) (hkk : kk = 9) (hp : W16 k kk)
    (hF : Fr (fun b => b = mb) w w') (hM : Mk w' mb N) (hN : N + 8 * (1 + nodesL l) ≤ 900000) (hS : Nm w' (fun b => b = mb) vs S) (hSn : ∀ s ∈ S, Nme s) (hSl : S.length + 8 * (1 + nodesL l) ≤ 900000) :
    Calls Try.prog 30 #[.pointer (some ⟨mb, 0, none⟩), .agg #[Kv k, Kv n, va], vs] w' (MkPost w' mb N S (8 * (1 + nodesL l))) := by
  obtain ⟨a1, c1, rfl, -⟩ := id h
  obtain ⟨a2, c2, rfl, -⟩ := hS.shape
  unfold W16 at hp
  have hml : mb < w'.heap.size := lt_of_get hM
  have hg2 : Grew w' ((w'.alloc (rawB k n (.slice a1 l.length c1))).alloc newB) := ((Fr.refl _ _).alloc _).alloc _
  have hps := pns_le l 3
  simp only [pns] at hps
  have HPART := hid (fun (w2 : World) (hS2 : Fr (fun b => b = mb) ((w'.alloc (rawB k n (.slice a1 l.length c1))).alloc newB) w2) (M : Nat) (hM2 : Mk w2 mb M) (h1 : N ≤ M) (j : Nat) (hj : j ≤ 2) (h2 : M + pn l j ≤ N + pn l 0 + pn l 1 + pn l 2) =>
    part_any h k n M (.slice a2 S.length c2) S j (by omega) ((hF.trans (Grew.any (F := fun b => b = mb) hg2) (fun _ _ e => e)).trans hS2 (fun _ _ e => e)) hM2 (by omega) ((hS.grew hg2).kept hS2 (fun _ e => e)) hSn (by have := pn_le l j; omega))
  have HM := hid (hM.grew hg2)
  have HG2 := hid hg2
  have hsz : ((w'.alloc (rawB k n (.slice a1 l.length c1))).alloc newB).heap.size = w'.heap.size + 2 := by simp
  have hraw : ((w'.alloc (rawB k n (.slice a1 l.length c1))).alloc newB).heap[w'.heap.size]? = some (rawB k n (.slice a1 l.length c1)) := ((Fr.refl (fun _ => False) (w'.alloc (rawB k n (.slice a1 l.length c1)))).alloc _).get (heap_alloc_new _ _) (fun f => f)
  have r0 := cell_of_get hraw 0
  have r1 := cell_of_get hraw 1
  have r2 := cell_of_get hraw 2
  have HRES := hid (heap_a2 w' (rawB k n (.slice a1 l.length c1)) newB)
  have HPS := hid hps
  have HMB := hid hM
  clear h hF hM hN hS hSn hSl hraw hg2 hps
  subst hkk
  go_enter Try.func30, Try.ntmps30
  go_wp2_with (first | (go_at_call 38; with_reducible refine (hp _).mono ?_; rintro e w1 ⟨rfl, rfl⟩; clear hp))
  obtain ⟨wr, hwr⟩ : ∃ q : World, q = ((w'.alloc (rawB k n (.slice a1 l.length c1))).alloc newB) := ⟨_, rfl⟩
  have hml2 : mb < wr.heap.size := by rw [hwr]; omega
  rw [← hwr] at HPART HM HG2 hsz r0 r1 r2 HRES ⊢
  refine Rg.wp_region_factsJ 12 (I3 mb N (pn l 0) (pn l 1) (pn l 2)) (Fr (fun b => b = mb)) [(121, Rg.Ex (.pointer (some ⟨mb, 0, none⟩))), (122, Rg.Ex (.agg #[Kv k, Kv n, .slice a1 l.length c1])), (123, Rg.Ex (.slice a2 S.length c2)), (124, FT wr S (pn l 0)), (125, Rg.Ex (.pointer (some ⟨mb, 0, none⟩))), (126, Rg.Ex (.agg #[Kv k, Kv n, .slice a1 l.length c1])), (127, Rg.Ex (.slice a2 S.length c2)), (128, FT wr S (pn l 1)), (129, Rg.Ex (.pointer (some ⟨mb, 0, none⟩))), (130, Rg.Ex (.agg #[Kv k, Kv n, .slice a1 l.length c1])), (131, Rg.Ex (.slice a2 S.length c2)), (132, FT wr S (pn l 2))] (by kernel_rfl) (by kernel_rfl) (by rfl) (by rfl)
    (fun a => Fr.refl _ a) (fun a b c h k => h.trans k (fun _ _ f => f)) (Fr.refl _ _).drew
    (Rg.Stays.all ⟨Rg.Ex.stays _, Rg.Ex.stays _, Rg.Ex.stays _, FT.stays hml2, Rg.Ex.stays _, Rg.Ex.stays _, Rg.Ex.stays _, FT.stays hml2, Rg.Ex.stays _, Rg.Ex.stays _, Rg.Ex.stays _, FT.stays hml2, trivial⟩) ?_ ?_ ?_
  · go_light
    refine Rg.OpGoalsJ.cons ⟨rfl, ?_⟩ (Rg.OpGoalsJ.cons ⟨rfl, ?_⟩ (Rg.OpGoalsJ.cons ⟨rfl, ?_⟩ (Rg.OpGoalsJ.cons ⟨rfl, ?_⟩ (Rg.OpGoalsJ.cons ⟨rfl, ?_⟩ (Rg.OpGoalsJ.cons ⟨rfl, ?_⟩ (Rg.OpGoalsJ.cons ⟨rfl, ?_⟩ (Rg.OpGoalsJ.cons ⟨rfl, ?_⟩ (Rg.OpGoalsJ.cons ⟨rfl, ?_⟩ (Rg.OpGoalsJ.cons ⟨rfl, ?_⟩ (Rg.OpGoalsJ.cons ⟨rfl, ?_⟩ (Rg.OpGoalsJ.cons ⟨rfl, ?_⟩ Rg.OpGoalsJ.none)))))))))))
    all_goals (intro listed a' w2 hmc hS hI hR; simp [Rg.Rd, Op.operands, Call.operands, Rg.Fk, Rg.Ex] at hR)
    all_goals (have hIo := fun i a2 (h1 : i ≠ 3 ∧ i ≠ 7 ∧ i ≠ 11) => hI.pure (i := i) a2 h1)
    all_goals (have r0' := hS.cell r0 (by simp; omega); have r1' := hS.cell r1 (by simp; omega); have r2' := hS.cell r2 (by simp; omega))
    all_goals try (simp [Rg.Yields, execOp, Act.eval, hR, r0', r1', r2', go_sem, Rg.Fk, Rg.Ex, Fr.refl]; exact hIo _ _ (by decide))
    · simp [Rg.Yields, Act.eval, hR, go_sem, Rg.Fk, Rg.Ex]
      obtain ⟨N2, hm2, hb1, hb2⟩ := hI.le0 hmc.not
      refine (HPART.out w2 hS N2 hm2 hb1 0 (by omega) hb2).mono ?_
      intro e w3 hpost
      obtain ⟨v, rfl, hft, hf3, hadd⟩ := FT.of hS hpost
      exact ⟨v, rfl, hft, hf3, hI.call0 hmc.not (by rw [hmc.size]; decide) hm2 hadd⟩
    · simp [Rg.Yields, Act.eval, hR, go_sem, Rg.Fk, Rg.Ex]
      obtain ⟨N2, hm2, hb1, hb2⟩ := hI.le1 hmc.not
      refine (HPART.out w2 hS N2 hm2 hb1 1 (by omega) hb2).mono ?_
      intro e w3 hpost
      obtain ⟨v, rfl, hft, hf3, hadd⟩ := FT.of hS hpost
      exact ⟨v, rfl, hft, hf3, hI.call1 hmc.not (by rw [hmc.size]; decide) hm2 hadd⟩
    · simp [Rg.Yields, Act.eval, hR, go_sem, Rg.Fk, Rg.Ex]
      obtain ⟨N2, hm2, hb1, hb2⟩ := hI.le2 hmc.not
      refine (HPART.out w2 hS N2 hm2 hb1 2 (by omega) hb2).mono ?_
      intro e w3 hpost
      obtain ⟨v, rfl, hft, hf3, hadd⟩ := FT.of hS hpost
      exact ⟨v, rfl, hft, hf3, hI.call2 hmc.not (by rw [hmc.size]; decide) hm2 hadd⟩
  · exact ⟨N, HM.out, Nat.le_refl _, by omega⟩
  · rintro w5 hS _ rfl _ rfl _ rfl v124 ⟨x0, an0, cn0, ax0, cx0, rfl, g1, g2, g3, g4⟩ _ rfl _ rfl _ rfl v128 ⟨x1, an1, cn1, ax1, cx1, rfl, i1, i2, i3, i4⟩ _ rfl _ rfl _ rfl v132 ⟨x2, an2, cn2, ax2, cx2, rfl, j1, j2, j3, j4⟩ hI
    obtain ⟨N3, hm3, hb1, hb2⟩ := hI.le
    have hs5 := hS.get HRES.out (by omega)
    have q0 := cell_of_get hs5 0
    have q1 := cell_of_get hs5 1
    have q2 := cell_of_get hs5 2
    have q3 := cell_of_get hs5 3
    have f0 := frozen_of_get hs5 0
    have f1 := frozen_of_get hs5 1
    have f2 := frozen_of_get hs5 2
    have f3 := frozen_of_get hs5 3
    have l5 := lt_of_get hs5
    have HS5 := hid hs5
    have HALL := hid (And.intro g1 (And.intro g2 (And.intro g3 (And.intro g4 (And.intro i1 (And.intro i2 (And.intro i3 (And.intro i4 (And.intro j1 (And.intro j2 (And.intro j3 j4)))))))))))
    have HS := hid hS
    have HM3 := hid (And.intro hm3 (And.intro hb1 hb2))
    clear g1 g2 g3 g4 i1 i2 i3 i4 j1 j2 j3 j4 hS hI hs5 hm3 hb1 hb2
    go_wp2
    have h2 := fun o : Obj => ((Fr.refl (fun _ => False) _).alloc o).get (set4_heap HS5.out (Kv 8) (.string ⟨#[]⟩) (.slice none 0 0) (.slice (some ⟨w5.heap.size, 0, none⟩) 3 3)) (fun f => f)
    refine bodyPost_ret (res28 Try.results30 _ _ (w'.heap.size + 1) rfl (h2 _)) rfl ?_
    obtain ⟨g1, g2, g3, g4, i1, i2, i3, i4, j1, j2, j3, j4⟩ := HALL.out
    obtain ⟨hm3, hb1, hb2⟩ := HM3.out
    have hps := HPS.out
    exact if_done (N := N) (c := 8 * (1 + nodesL l)) (W := wr) HG2.out (by omega) (by omega) hml HS.out g1 g2 i1 i2 j1 j2 g3 i3 j3 (by omega) hm3 hb1 (by omega) _ _ _ _ _ rfl
end Go.Proofs.Ytddcfnjmppijjaa
