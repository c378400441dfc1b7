import Derived.Test.YtddcfnjmppijjaaP8
import Derived.Test.YtddcfnjmppijjaaM21
import Derived.Test.YtddcfnjmppijjaaA5
import Derived.Test.YtddcfnjmppijjaaR3
import Derived.Test.YtddcfnjmppijjaaN6
/-! CoreBinds's walk. -/
namespace Go.Proofs.Ytddcfnjmppijjaa
open Go.RowKit

/-- the names around -/
abbrev scq : List Str := [[97], [98], [99]]
theorem scq_ok : ∀ s ∈ scq, Nme s := by
  intro s hs
  simp at hs
  rcases hs with rfl | rfl | rfl <;> exact ⟨by simp, by simp, by simp⟩

theorem oks_all5 (l : List X) (h : ∀ x ∈ l, x.ok = true) : oks l = true := by
  induction l with
  | nil => rfl
  | cons x r ih => simp only [oks, h x (by simp), ih (fun y hy => h y (by simp [hy])), Bool.and_self]
theorem intsL_ok5 : ∀ t ∈ intsL, numOk t = true := by decide
theorem twos_ar5 : ∀ t ∈ twosL, ar t = 2 := by decide
theorem ones_ar5 : ∀ t ∈ onesL, ar t = 1 := by decide
/-- what the maker makes is right -/
theorem good_ok5 {S : List Str} {x : X} (h : Good S x) (hS : ∀ s ∈ S, Nme s) : x.ok = true := by
  induction h with
  | int S t ht => simp [X.ok, oks, shp, intsL_ok5 t ht]
  | bool S t ht => rcases ht with rfl | rfl <;> simp [X.ok, oks, shp]
  | nil S => simp [X.ok, oks, shp]
  | sym S => simp [X.ok, oks, shp]
  | var S s hs =>
    have := (hS s hs).1
    cases s with
    | nil => exact absurd rfl this
    | cons c r => simp [X.ok, oks, shp]
  | lam S ns x h0 h1 h2 h3 hx ih =>
    have hne : 0 < ns.length := by cases ns <;> simp_all
    have ho : onceB ns = true := decide_eq_true ⟨fun e => (h3 _ e).1 rfl, h2⟩
    have hi := ih (fun s hs => (List.mem_append.1 hs).elim (hS s) (h3 s))
    simp [X.ok, oks, shp, hi, hne, ho]
  | app S a h1 h2 ha ih =>
    have hi := oks_all5 a (fun x hx => ih x hx hS)
    simp [X.ok, shp, hi, h1]
  | iff S a h1 ha ih =>
    have hi := oks_all5 a (fun x hx => ih x hx hS)
    simp [X.ok, shp, hi, h1]
  | lets S ns a h0 h1 h2 h3 hl ha ih =>
    have hne : 0 < ns.length := by cases ns <;> simp_all
    have ho : onceB ns = true := decide_eq_true ⟨fun e => (h3 _ e).1 rfl, h2⟩
    have hi := oks_all5 a (fun x hx => ih x hx (fun s hs => (List.mem_append.1 hs).elim (hS s) (h3 s)))
    simp [X.ok, shp, hi, hne, ho, hl]
  | prim S t a ht ha ih =>
    have hi := oks_all5 a (fun x hx => ih x hx hS)
    rcases ht with ⟨h1, h2⟩ | ⟨h1, h2⟩
    · simp [X.ok, shp, hi, twos_ar5 t h1, h2]
    · simp [X.ok, shp, hi, ones_ar5 t h1, h2]
theorem smn_sm5 {n : Nat} {x : X} (h : Smn n x) (hm : n ≤ 1000000) : Sm x := by
  induction h with
  | mk k t ns a ht hn ha _ ih => exact .mk k t ns a (by omega) (by omega) (by omega) ih
theorem right_any5 {w : World} (hG : Gl w) {D : Nat → Prop} {e : Value} {x : X} (h : Rd w D e x) (hs : Sm x) (w' : World) (hg : Grew w w') : Calls Try.prog 34 #[e] w' fun e w'' => e = .returned (.bool x.ok) ∧ Grew w' w'' := by
  obtain ⟨vn, va, rfl, hn, hr⟩ := h
  cases hs with
  | mk k t ns a ht hnl ha h => exact right_row hG hr h ha w' hg k t vn ns hn ht hnl
theorem size_any5 {w : World} {D : Nat → Prop} {e : Value} {x : X} (h : Rd w D e x) (hs : x.size ≤ 100000) (w' : World) (hg : Grew w w') : Calls Try.prog 39 #[e] w' fun e w'' => e = .returned (Kv (x.size : Int)) ∧ Grew w' w'' := by
  obtain ⟨vn, va, rfl, hn, hr⟩ := h
  cases x with
  | mk k t ns a =>
    simp only [X.size] at hs
    exact size_row hr w' hg (Kv k) (St t) vn (show 1 + sizes a ≤ 4611686018427387904 by omega)

theorem nm_two5 {w : World} {D : Nat → Prop} {g : Nat} (h : w.heap[g]? = some (.cells #[.string ⟨#[97]⟩, .string ⟨#[98]⟩] 9 (0, 0))) (hD : ¬ D g) : Nm w D (.slice (some ⟨g, 0, none⟩) 2 2) [[97], [98]] :=
  ⟨_, 2, rfl, Nat.le_refl _, by simp [maxLen], .inr ⟨g, 0, rfl, hD, fun i hi => by
    obtain rfl | rfl : i = 0 ∨ i = 1 := by simp at hi; omega
    all_goals (rw [Nat.zero_add, cell_of_get h]; rfl)⟩⟩
theorem row_three5 {w : World} {D : Nat → Prop} {g : Nat} {x y z : X} {n0 p0 n1 p1 n2 p2 : Value} (hb : w.heap[g]? = some (.cells #[Kv x.kind, St x.text, n0, p0, Kv y.kind, St y.text, n1, p1, Kv z.kind, St z.text, n2, p2] 28 (0, 0))) (hD : ¬ D g)
    (h0 : Nm w D n0 x.names) (k0 : Row w D p0 x.parts) (h1 : Nm w D n1 y.names) (k1 : Row w D p1 y.parts) (h2 : Nm w D n2 z.names) (k2 : Row w D p2 z.parts) : Row w D (.slice (some ⟨g, 0, none⟩) 3 3) [x, y, z] := by
  refine .mk [x, y, z] g 0 3 (fun i => match i with | 0 => n0 | 1 => n1 | _ => n2) (fun i => match i with | 0 => p0 | 1 => p1 | _ => p2) (Nat.le_refl _) (by simp [maxLen]) hD ?_ ?_ ?_ ?_ ?_ ?_
  all_goals
    intro i hi
    obtain rfl | rfl | rfl : i = 0 ∨ i = 1 ∨ i = 2 := by simp at hi; omega
  · exact cell_of_get hb 0
  · exact cell_of_get hb 4
  · exact cell_of_get hb 8
  · exact cell_of_get hb 1
  · exact cell_of_get hb 5
  · exact cell_of_get hb 9
  · exact cell_of_get hb 2
  · exact cell_of_get hb 6
  · exact cell_of_get hb 10
  · exact cell_of_get hb 3
  · exact cell_of_get hb 7
  · exact cell_of_get hb 11
  · exact h0
  · exact h1
  · exact h2
  · exact k0
  · exact k1
  · exact k2

/-- both bound: only the third name is free -/
theorem let_fv5 {x y : X} (hx : Good scq x) (hy : Good scq y) (s : Str) : s ∈ (X.mk 9 [] [[97], [98]] [x, y, .mk 5 [99] [] []]).fv ↔ s = [99] := by
  rw [mem_fv]
  simp only [fvs, List.mem_append, List.mem_cons, List.not_mem_nil, or_false, mem_fv]
  constructor
  · rintro (⟨h, -⟩ | ⟨h | h | h, hn⟩)
    · simp at h
    · have := good_fv hx s h
      simp only [List.mem_cons, List.not_mem_nil, or_false] at this
      rcases this with h | h | h
      · exact absurd (.inl h) hn
      · exact absurd (.inr h) hn
      · exact h
    · have := good_fv hy s h
      simp only [List.mem_cons, List.not_mem_nil, or_false] at this
      rcases this with h | h | h
      · exact absurd (.inl h) hn
      · exact absurd (.inr h) hn
      · exact h
    · simpa using h
  · rintro rfl
    exact .inr ⟨.inr (.inr (by simp)), by simp⟩
theorem app_fv5 (x y : X) (s : Str) : s ∈ (X.mk 7 [] [] [x, y]).fv ↔ s ∈ x.fv ∨ s ∈ y.fv := by
  rw [mem_fv]
  simp [fvs]
theorem let_ok5 {x y : X} (hx : x.ok = true) (hy : y.ok = true) : (X.mk 9 [] [[97], [98]] [x, y, .mk 5 [99] [] []]).ok = true := by
  have ho : onceB [[97], [98]] = true := by decide
  simp [X.ok, oks, shp, hx, hy, ho]
theorem let_size5 (x y : X) : (X.mk 9 [] [[97], [98]] [x, y, .mk 5 [99] [] []]).size = x.size + y.size + 2 := by
  simp only [X.size, sizes]
  omega
theorem srt_one5 {ks : List Str} (h1 : ks.Nodup) (h2 : ∀ s, s ∈ ks ↔ s = [99]) : srt ks = [[99]] :=
  sorted_eq _ _ (srt_sorted ks) (by simp) (srt_nodup h1) (by simp) (fun s => by rw [srt_mem, h2 s]; simp)

/-- a row of the two names -/
def F2 (v : Value) (w : World) : Prop := ∃ g, v = .slice (some ⟨g, 0, none⟩) 2 2 ∧ w.heap[g]? = some (.cells #[.string ⟨#[97]⟩, .string ⟨#[98]⟩] 9 (0, 0))
theorem F2.stays (v : Value) (w w' : World) (h : Grew w w') (k : F2 v w) : F2 v w' := by
  obtain ⟨g, e, r⟩ := k
  exact ⟨g, e, h.get r (fun f => f)⟩
/-- a row of three terms -/
def F3 (o : Obj) (v : Value) (w : World) : Prop := ∃ g, v = .slice (some ⟨g, 0, none⟩) 3 3 ∧ w.heap[g]? = some o
theorem F3.stays (o : Obj) (v : Value) (w w' : World) (h : Grew w w') (k : F3 o v w) : F3 o v w' := by
  obtain ⟨g, e, r⟩ := k
  exact ⟨g, e, h.get r (fun f => f)⟩
/-- the term of both -/
def F4 (o : Obj) (v : Value) (w : World) : Prop := ∃ g g', v = .agg #[Kv 9, .string ⟨#[]⟩, .slice (some ⟨g, 0, none⟩) 2 2, .slice (some ⟨g', 0, none⟩) 3 3] ∧ w.heap[g]? = some (.cells #[.string ⟨#[97]⟩, .string ⟨#[98]⟩] 9 (0, 0)) ∧ w.heap[g']? = some o
theorem F4.stays (o : Obj) (v : Value) (w w' : World) (h : Grew w w') (k : F4 o v w) : F4 o v w' := by
  obtain ⟨g, g', e, r, r'⟩ := k
  exact ⟨g, g', e, h.get r (fun f => f), h.get r' (fun f => f)⟩
/-- the names free in a term -/
def FV (x : X) (v : Value) (w : World) : Prop := ∃ ks, Nm w (fun _ => False) v ks ∧ ∀ s, s ∈ ks ↔ s ∈ x.fv
theorem FV.stays (x : X) (v : Value) (w w' : World) (h : Grew w w') (k : FV x v w) : FV x v w' := by
  obtain ⟨ks, r, m⟩ := k
  exact ⟨ks, r.grew h, m⟩
/-- a new block of a term's four cells -/
def F1 (B : Nat) (v : Value) (w : World) : Prop := ∃ g, B ≤ g ∧ v = .pointer (some ⟨g, 0, none⟩) ∧ ∃ a0 a1 a2 a3, w.heap[g]? = some (.cells #[a0, a1, a2, a3] 28 (0, 0))
theorem F1.stays (B : Nat) (v : Value) (w w' : World) (h : Grew w w') (k : F1 B v w) : F1 B v w' := by
  obtain ⟨g, e0, e, a0, a1, a2, a3, r⟩ := k
  exact ⟨g, e0, e, a0, a1, a2, a3, h.get r (fun f => f)⟩

set_option maxHeartbeats 8000000 in
set_option maxRecDepth 100000 in
theorem cbinds_walk {W : World} {v u : Value} {l m : List RT} (hG : Gl W) (h : RRow W (fun _ => False) v l) (hu : RRow W (fun _ => False) u m) (n : Int) : Calls Try.prog 15 #[v, u, .int .i64 n] W fun e W' => e = .returned (.bool true) ∧ Grew W W' := by
  have hk := known_any hG
  have HGL := hid hG
  have hf := fun W1 (g : Grew W W1) => few_any (h.kept g (fun _ f => f.elim))
  have hf2 := fun W1 (g : Grew W W1) => few_any (hu.kept g (fun _ f => f.elim))
  have HMK := hid (fun (mb : Nat) (hmb : W.heap.size ≤ mb) => make_any (mb := mb) (h.mono (E := fun b => b = mb) (fun b hb e => by omega)))
  have HMK2 := hid (fun (mb : Nat) (hmb : W.heap.size ≤ mb) => make_any (mb := mb) (hu.mono (E := fun b => b = mb) (fun b hb e => by omega)))
  obtain ⟨ad, cap, rfl, -⟩ := h.shape
  obtain ⟨ad2, cap2, rfl, -⟩ := hu.shape
  clear h hu hG
  go_enter Try.func15, Try.ntmps15
  go_wp2_with (first | (go_at_call 32; (with_reducible refine hk.mono ?_); rintro e w1 ⟨rfl, hg1⟩) | (go_at_call 17; (with_reducible refine (hf _ hg1).mono ?_); rintro e w2 ⟨b, rfl, hb, rfl⟩; clear hf hk; have HB := hid hb; clear hb; have HG1 := hid hg1; cases b) | (go_at_call 17; (with_reducible refine (hf2 _ hg1).mono ?_); rintro e w2 ⟨b, rfl, hb, rfl⟩; clear hf2; have HB2 := hid hb; clear hb hg1; cases b))
  · go_ret
    exact ⟨rfl, HG1.out⟩
  · go_ret
    exact ⟨rfl, HG1.out⟩
  obtain ⟨W5, hW5⟩ : ∃ q : World, q = (w1.alloc (.cells #[.string ⟨#[97]⟩, .string ⟨#[98]⟩, .string ⟨#[99]⟩] 9)).alloc (.cells #[.int .i64 0] 56) := ⟨_, rfl⟩
  have gW5 : Grew W W5 := HG1.out.trans (by rw [hW5]; exact ((Fr.refl _ _).alloc _).alloc _) (fun _ _ f => f)
  have hs5 : W5.heap.size = w1.heap.size + 2 := by rw [hW5]; simp
  have hbs : W5.heap[w1.heap.size]? = some (.cells #[.string ⟨#[97]⟩, .string ⟨#[98]⟩, .string ⟨#[99]⟩] 9 (0, 0)) := by rw [hW5]; exact ((Fr.refl (fun _ => False) _).alloc _).get (heap_alloc_new w1 _) (fun f => f)
  have hmk : Mk W5 (w1.heap.size + 1) 0 := by rw [hW5]; exact heap_a2 w1 _ _
  have hsc : ∀ (w' : World), w'.heap[w1.heap.size]? = some (.cells #[.string ⟨#[97]⟩, .string ⟨#[98]⟩, .string ⟨#[99]⟩] 9 (0, 0)) → ∀ D : Nat → Prop, ¬ D w1.heap.size → Nm w' D (.slice (some ⟨w1.heap.size, 0, none⟩) 3 3) scq := fun w' e D hD => ⟨_, 3, rfl, Nat.le_refl _, by simp [maxLen], .inr ⟨_, 0, rfl, hD, fun i hi => by
    have hi3 : i = 0 ∨ i = 1 ∨ i = 2 := by simp at hi; omega
    rw [Nat.zero_add, cell_of_get e]
    rcases hi3 with rfl | rfl | rfl <;> rfl⟩⟩
  have hnl : nodesL l ≤ 40 := HB.out (by simp)
  have hnm : nodesL m ≤ 40 := HB2.out (by simp)
  have hw1 : W.heap.size ≤ w1.heap.size := HG1.out.size
  have hM := HMK.out (w1.heap.size + 1) (by omega) W5 6 n 0 _ scq (Grew.any gW5) hmk (by omega) (hsc W5 hbs _ (by omega)) scq_ok (by simp; omega)
  have HM2 := hid (fun (w6 : World) (N1 : Nat) (hfr : Fr (fun b => b = w1.heap.size + 1) W5 w6) (hm6 : Mk w6 (w1.heap.size + 1) N1) (hN : N1 ≤ 400) => HMK2.out (w1.heap.size + 1) (by omega) w6 9 n N1 _ scq ((Grew.any gW5).trans hfr (fun _ _ e => e)) hm6 (by omega) (hsc w6 (hfr.get hbs (by omega)) _ (by omega)) scq_ok (by simp; omega))
  have HSC := hid hsc
  have HBS := hid hbs
  have HNN := hid (And.intro hnl hnm)
  have HS5 := hid hs5
  have HG5 := hid gW5
  rw [← hW5]
  clear hW5 gW5 hs5 hbs hmk hsc hnl hnm hw1 HMK HMK2 HB HB2
  (with_reducible refine hM.mono ?_)
  clear hM
  rintro e w6 ⟨e', x, N1, rfl, hrd, hgd, hsz, hm6, -, hN1, hfr⟩
  have hM2 := HM2.out w6 N1 hfr hm6 (by have := HNN.out.1; omega)
  have HFR := hid hfr
  have HGX := hid hgd
  have HSX := hid hsz
  have HRX := hid hrd
  obtain ⟨vn, va, rfl, hn, hr⟩ := hrd
  obtain ⟨an, cn, rfl, -⟩ := hn.shape
  obtain ⟨aa, ca, rfl, -⟩ := hr.shape
  clear hn hr hgd hsz hfr hm6 HM2
  go_wp2_with (go_at_call 30; (with_reducible refine hM2.mono ?_); rintro e w7 ⟨e', y, N2, rfl, hrd2, hgd2, hsz2, -, -, -, hfr2⟩; clear hM2; have HFR2 := hid hfr2; have HGY := hid hgd2; have HSY := hid hsz2; have HRY := hid hrd2; obtain ⟨vn2, va2, rfl, hn2, hr2⟩ := hrd2; obtain ⟨an2, cn2, rfl, -⟩ := hn2.shape; obtain ⟨aa2, ca2, rfl, -⟩ := hr2.shape; clear hn2 hr2 hgd2 hsz2 hfr2)
  obtain ⟨WA, hWA⟩ : ∃ q : World, q = (w7.alloc (.cells #[Kv x.kind, St x.text, .slice an x.names.length cn, .slice aa x.parts.length ca] 28)).alloc (.cells #[Kv y.kind, St y.text, .slice an2 y.names.length cn2, .slice aa2 y.parts.length ca2] 28) := ⟨_, rfl⟩
  have g7A : Grew w7 WA := by rw [hWA]; exact ((Fr.refl _ _).alloc _).alloc _
  have hbx : WA.heap[w7.heap.size]? = some (.cells #[Kv x.kind, St x.text, .slice an x.names.length cn, .slice aa x.parts.length ca] 28 (0, 0)) := by rw [hWA]; exact ((Fr.refl (fun _ => False) _).alloc _).get (heap_alloc_new w7 _) (fun f => f)
  have hby : WA.heap[w7.heap.size + 1]? = some (.cells #[Kv y.kind, St y.text, .slice an2 y.names.length cn2, .slice aa2 y.parts.length ca2] 28 (0, 0)) := by rw [hWA]; exact heap_a2 w7 _ _
  have g6A : Fr (fun b => b = w1.heap.size + 1) w6 WA := HFR2.out.trans g7A (fun _ _ f => f.elim)
  have HRDX := hid ((HRX.out.kept g6A (fun b e => by have := HS5.out; omega)).mono (E := fun _ => False) (fun _ _ f => f.elim))
  have HRDY := hid ((HRY.out.kept g7A (fun b f => f.elim)).mono (E := fun _ => False) (fun _ _ f => f.elim))
  have HBA := hid (g6A.get (HFR.out.get HBS.out (by omega)) (by omega))
  have HGA := hid (((HG5.out.trans HFR.out (fun b hb e => by have := HG1.out.size; omega)).trans g6A (fun b hb e => by have := HG1.out.size; omega)) : Grew W WA)
  have HCX := hid (And.intro (cell_of_get hbx 0) (And.intro (cell_of_get hbx 1) (And.intro (cell_of_get hbx 2) (cell_of_get hbx 3))))
  have HCY := hid (And.intro (cell_of_get hby 0) (And.intro (cell_of_get hby 1) (And.intro (cell_of_get hby 2) (cell_of_get hby 3))))
  have HLX := hid (And.intro (lt_of_get hbx) (And.intro (lt_of_get hby) (lt_of_get HBA.out)))
  rw [← hWA]
  clear hWA g7A hbx hby g6A HFR HFR2 HRX HRY HBS HG1 HG5 HS5
  refine Rg.wp_region_facts 7 Grew [(41, F2), (42, Rg.Ex (.agg #[Kv x.kind, St x.text, .slice an x.names.length cn, .slice aa x.parts.length ca])), (43, Rg.Ex (.agg #[Kv y.kind, St y.text, .slice an2 y.names.length cn2, .slice aa2 y.parts.length ca2])), (44, Rg.Ex (.agg #[Kv 5, St [99], .slice none 0 0, .slice none 0 0])), (45, F3 (.cells #[Kv x.kind, St x.text, .slice an x.names.length cn, .slice aa x.parts.length ca, Kv y.kind, St y.text, .slice an2 y.names.length cn2, .slice aa2 y.parts.length ca2, Kv 5, St [99], .slice none 0 0, .slice none 0 0] 28 (0, 0))), (46, F4 (.cells #[Kv x.kind, St x.text, .slice an x.names.length cn, .slice aa x.parts.length ca, Kv y.kind, St y.text, .slice an2 y.names.length cn2, .slice aa2 y.parts.length ca2, Kv 5, St [99], .slice none 0 0, .slice none 0 0] 28 (0, 0))), (11, F1 WA.heap.size)] (by kernel_rfl) (by kernel_rfl) (by rfl) (by rfl)
    (fun a => Fr.refl _ a) (fun a b c h k => h.trans k (fun _ _ f => f)) (Fr.refl _ _).drew
    (Rg.Stays.all ⟨F2.stays, Rg.Ex.stays _, Rg.Ex.stays _, Rg.Ex.stays _, F3.stays _, F4.stays _, F1.stays _, trivial⟩) ?_ ?_
  · go_light
    refine Rg.OpGoals.cons (Rg.OpGoal.plain rfl ?_) (Rg.OpGoals.cons (Rg.OpGoal.plain rfl ?_) (Rg.OpGoals.cons (Rg.OpGoal.plain rfl ?_) (Rg.OpGoals.cons (Rg.OpGoal.plain rfl ?_) (Rg.OpGoals.cons (Rg.OpGoal.plain rfl ?_) (Rg.OpGoals.cons (Rg.OpGoal.plain rfl ?_) (Rg.OpGoals.cons (Rg.OpGoal.plain rfl ?_) Rg.OpGoals.none))))))
    all_goals (intro a' w' hS hR; simp [Rg.Rd, Op.operands, Call.operands, Rg.Fk, Rg.Ex] at hR)
    all_goals (have x0' := hS.cell HCX.out.1 (fun f => f))
    all_goals (have x1' := hS.cell HCX.out.2.1 (fun f => f))
    all_goals (have x2' := hS.cell HCX.out.2.2.1 (fun f => f))
    all_goals (have x3' := hS.cell HCX.out.2.2.2 (fun f => f))
    all_goals (have y0' := hS.cell HCY.out.1 (fun f => f))
    all_goals (have y1' := hS.cell HCY.out.2.1 (fun f => f))
    all_goals (have y2' := hS.cell HCY.out.2.2.1 (fun f => f))
    all_goals (have y3' := hS.cell HCY.out.2.2.2 (fun f => f))
    all_goals try (simp [Rg.Yields, execOp, Act.eval, hR, x0', x1', x2', x3', y0', y1', y2', y3', go_sem, Rg.Fk, Rg.Ex, Fr.refl]; done)
    · simp [Rg.Yields, execOp, Act.eval, go_sem, Rg.Fk, Rg.Ex]
      exact ⟨⟨_, rfl, heap_alloc_new w' _⟩, (Fr.refl _ _).alloc _⟩
    · simp [Rg.Yields, Act.eval, go_sem, Rg.Fk, Rg.Ex]
      refine (var_any w' [99]).mono ?_
      rintro e w2 ⟨rfl, h2⟩
      exact ⟨_, rfl, rfl, h2⟩
    · simp [Rg.Yields, execOp, Act.eval, hR, go_sem, Rg.Fk, Rg.Ex]
      exact ⟨⟨_, rfl, heap_alloc_new w' _⟩, (Fr.refl _ _).alloc _⟩
    · obtain ⟨⟨g, e1, k1⟩, ⟨g', e2, k2⟩⟩ := hR
      simp [Rg.Yields, execOp, Act.eval, e1, e2, go_sem, Rg.Fk, Rg.Ex, Fr.refl]
      exact ⟨g, g', rfl, k1, k2⟩
    · simp [Rg.Yields, execOp, go_sem, Rg.Fk, Rg.Ex]
      exact ⟨⟨_, hS.size, rfl, _, _, _, _, heap_alloc_new w' _⟩, (Fr.refl _ _).alloc _⟩
  · intro w8 hS
    rintro v41 h41 _ rfl _ rfl _ rfl v45 h45 v46 h46 v11 h11
    refine Rg.Then.nil ?_
    clear h41 h45
    obtain ⟨q, hqB, rfl, a0, a1, a2, a3, hq⟩ := h11
    obtain ⟨g, g', rfl, hg, hg'⟩ := h46
    obtain ⟨k0, k1, k2, k3⟩ := And.intro (cell_of_get hq 0) (And.intro (cell_of_get hq 1) (And.intro (cell_of_get hq 2) (cell_of_get hq 3)))
    obtain ⟨f0, f1, f2, f3⟩ := And.intro (frozen_of_get hq 0) (And.intro (frozen_of_get hq 1) (And.intro (frozen_of_get hq 2) (frozen_of_get hq 3)))
    have HQ := hid hq
    have HG := hid hg
    have HG' := hid hg'
    have HS := hid hS
    clear hq hg hg' hS
    go_upto_region 9 with (fail)
    clear k0 k1 k2 k3 f0 f1 f2 f3
    obtain ⟨W8, hW8⟩ : ∃ z : World, z = set4 w8 q (Kv 9) (.string ⟨#[]⟩) (.slice (some ⟨g, 0, none⟩) 2 2) (.slice (some ⟨g', 0, none⟩) 3 3) := ⟨_, rfl⟩
    have hset : Fr (fun b => b = q) w8 W8 := by rw [hW8]; exact set4_fr _ _ _ _ _ _
    have hq8 : W8.heap[q]? = some (.cells #[Kv 9, (.string ⟨#[]⟩), .slice (some ⟨g, 0, none⟩) 2 2, .slice (some ⟨g', 0, none⟩) 3 3] 28 (0, 0)) := by rw [hW8]; exact set4_heap HQ.out _ _ _ _
    have hgq : g ≠ q := fun e => by
      have h1 := HG.out
      rw [e, HQ.out] at h1
      simp at h1
    have hgq' : g' ≠ q := fun e => by
      have h1 := HG'.out
      rw [e, HQ.out] at h1
      simp at h1
    have hg8 := hset.get HG.out hgq
    have hg8' := hset.get HG'.out hgq'
    have gA8 : Grew WA W8 := HS.out.trans hset (fun b hb e => by omega)
    have gW8 : Grew W W8 := HGA.out.trans gA8 (fun _ _ f => f)
    have hRX := HRDX.out.grew gA8
    have hRY := HRDY.out.grew gA8
    have hRL : Rd W8 (fun _ => False) (.agg #[Kv 9, (.string ⟨#[]⟩), .slice (some ⟨g, 0, none⟩) 2 2, .slice (some ⟨g', 0, none⟩) 3 3]) (.mk 9 [] [[97], [98]] [x, y, .mk 5 [99] [] []]) := by
      obtain ⟨_, _, e, hn, hr⟩ := hRX
      simp only [Value.agg.injEq] at e
      cases e
      obtain ⟨_, _, e, hm, hq⟩ := hRY
      simp only [Value.agg.injEq] at e
      cases e
      obtain ⟨_, _, e, ho, hp⟩ := rd_atom W8 (fun _ => False) 5 [99]
      simp only [Value.agg.injEq] at e
      cases e
      exact ⟨_, _, rfl, nm_two5 hg8 (fun f => f), row_three5 (z := .mk 5 [99] [] []) hg8' (fun f => f) hn hr hm hq ho hp⟩
    have hsx : x.size ≤ 328 := by have := HSX.out; have := HNN.out.1; omega
    have hsy : y.size ≤ 328 := by have := HSY.out; have := HNN.out.2; omega
    have smx := good_small HGX.out scq_ok
    have smy := good_small HGY.out scq_ok
    have sml : Smn 900 (.mk 9 [] [[97], [98]] [x, y, .mk 5 [99] [] []]) := .mk _ _ _ _ (by simp) (by simp) (by simp) (fun z hz => by
      simp only [List.mem_cons, List.not_mem_nil, or_false] at hz
      rcases hz with rfl | rfl | rfl
      · exact smx
      · exact smy
      · exact .mk _ _ _ _ (by simp) (by simp) (by simp) (by simp))
    have hfl := free_any hRL sml (by rw [let_size5]; omega)
    have HFX := hid (fun (W' : World) (k : Grew W8 W') => free_any (hRX.grew k) smx (by omega))
    have HFY := hid (fun (W' : World) (k : Grew W8 W') => free_any (hRY.grew k) smy (by omega))
    have HFA := hid (fun (W' : World) (k : Grew W8 W') => by
      obtain ⟨_, _, e, hn, hr⟩ := hRX.grew k
      simp only [Value.agg.injEq] at e
      cases e
      obtain ⟨_, _, e, hm, hq⟩ := hRY.grew k
      simp only [Value.agg.injEq] at e
      cases e
      exact free_any (e := .agg #[Kv 7, (.string ⟨#[]⟩), .slice none 0 0, .slice (some ⟨W'.heap.size, 0, none⟩) 2 2]) (x := .mk 7 [] [] [x, y]) ⟨_, _, rfl, ⟨none, 0, rfl, Nat.zero_le _, Nat.zero_le _, .inl rfl⟩, row_two hn hr hm hq (fun f => f) _ rfl⟩ (.mk _ _ _ _ (by simp) (by simp) (by simp) (fun z hz => by
        simp only [List.mem_cons, List.not_mem_nil, or_false] at hz
        rcases hz with rfl | rfl
        · exact smx
        · exact smy)) (by simp only [X.size, sizes]; omega))
    have HOK := hid (fun (W' : World) (k : Grew W8 W') => by
      have := right_any5 (HGL.out.grew gW8) hRL (smn_sm5 sml (by omega)) W' k
      rwa [let_ok5 (good_ok5 HGX.out scq_ok) (good_ok5 HGY.out scq_ok)] at this)
    have HZL := hid (fun (W' : World) (k : Grew W8 W') => by
      have := size_any5 hRL (by rw [let_size5]; omega) W' k
      rwa [let_size5] at this)
    have HZX := hid (fun (W' : World) (k : Grew W8 W') => size_any5 hRX (by omega) W' k)
    have HZY := hid (fun (W' : World) (k : Grew W8 W') => size_any5 hRY (by omega) W' k)
    have HCX8 := hid (And.intro (gA8.cell HCX.out.1 (fun f => f)) (And.intro (gA8.cell HCX.out.2.1 (fun f => f)) (And.intro (gA8.cell HCX.out.2.2.1 (fun f => f)) (gA8.cell HCX.out.2.2.2 (fun f => f)))))
    have HCY8 := hid (And.intro (gA8.cell HCY.out.1 (fun f => f)) (And.intro (gA8.cell HCY.out.2.1 (fun f => f)) (And.intro (gA8.cell HCY.out.2.2.1 (fun f => f)) (gA8.cell HCY.out.2.2.2 (fun f => f)))))
    have HCL8 := hid (And.intro (cell_of_get hq8 0) (And.intro (cell_of_get hq8 1) (And.intro (cell_of_get hq8 2) (cell_of_get hq8 3))))
    have HB8 := hid (gA8.get HBA.out (fun f => f))
    have HG8 := hid gW8
    have HSZ := hid (And.intro hsx hsy)
    dsimp only [set4] at hW8
    rw [← hW8]
    clear hW8 hset hq8 hgq hgq' hg8 hg8' gA8 gW8 hRX hRY hRL hsx hsy smx smy sml HQ HG HG' HS HRDX HRDY HBA HGA HCX HCY HLX HGL HNN HSX HSY hqB
    have z0 := HCL8.out.1
    have z1 := HCL8.out.2.1
    have z2 := HCL8.out.2.2.1
    have z3 := HCL8.out.2.2.2
    go_wp2_with (go_at_call 40; (with_reducible refine hfl.mono ?_); rintro e w9 ⟨vF, ks, rfl, hrt, hnd, hmem, hg9⟩; have hks := srt_one5 hnd (fun s => (hmem s).trans (let_fv5 HGX.out HGY.out s)); rw [hks] at hrt; clear hfl hnd hmem hks z0 z1 z2 z3; have HRT := hid hrt; have HG9 := hid hg9; obtain ⟨aF, cF, rfl, hF1, hF2⟩ := hrt.shape; clear hrt hg9)
    clear hF1
    replace hF2 : cF ≤ 9223372036854775807 := hF2
    go_loopw [13] (fun i wr => ∃ j : Nat, j ≤ 1 ∧ i = .int .i64 j ∧ Grew w9 wr) (fun i _ => 1 - (intOf i).toNat)
    case atStart => exact ⟨0, Nat.zero_le _, rfl, Fr.refl _ _⟩
    case round =>
      obtain ⟨j, hj, rfl, hgr⟩ := hrel
      by_cases hj0 : j = 0
      · subst hj0
        obtain ⟨gF, oF, cF', e, -, -, -, hel⟩ := (nm_of_rt HRT.out).row (by simp)
        simp only [Value.slice.injEq] at e
        obtain ⟨rfl, -, rfl⟩ := e
        have c0 := hgr.cell (hel 0 [99] rfl) (fun f => f)
        rw [Nat.add_zero] at c0
        have HGR := hid hgr
        clear hel hgr hj
        go_wp2
        go_roundw
        case rel => exact ⟨1, by omega, by go_num, HGR.out⟩
        case measure => simp [intOf]
      · obtain rfl : j = 1 := by omega
        clear hj hj0
        have g8r : Grew W8 wr := HG9.out.trans hgr (fun _ _ f => f)
        obtain ⟨x0, x1, x2, x3⟩ := And.intro (g8r.cell HCX8.out.1 (fun f => f)) (And.intro (g8r.cell HCX8.out.2.1 (fun f => f)) (And.intro (g8r.cell HCX8.out.2.2.1 (fun f => f)) (g8r.cell HCX8.out.2.2.2 (fun f => f))))
        obtain ⟨y0, y1, y2, y3⟩ := And.intro (g8r.cell HCY8.out.1 (fun f => f)) (And.intro (g8r.cell HCY8.out.2.1 (fun f => f)) (And.intro (g8r.cell HCY8.out.2.2.1 (fun f => f)) (g8r.cell HCY8.out.2.2.2 (fun f => f))))
        have hfa := HFA.out wr g8r
        have HG8R := hid g8r
        clear g8r hgr
        go_wp2_with (go_at_call 40; (with_reducible refine hfa.mono ?_); rintro e w10 ⟨vG, ks2, rfl, hrt2, hnd2, hmem2, hg10⟩; clear hfa x0 x1 x2 x3 y0 y1 y2 y3; have HRT2 := hid hrt2; have HMEM2 := hid hmem2; have HG10 := hid (HG8R.out.trans (((Fr.refl (fun _ => False) wr).alloc _).trans hg10 (fun _ _ f => f)) (fun _ _ f => f)); obtain ⟨aG, cG, rfl, -⟩ := hrt2.shape; clear hrt2 hnd2 hmem2 hg10)
        go_loopw [15] (fun i wr => ∃ j : Nat, j ≤ 3 ∧ i = .int .i64 j ∧ Grew w10 wr) (fun i _ => 3 - (intOf i).toNat)
        case atStart => exact ⟨0, Nat.zero_le _, rfl, Fr.refl _ _⟩
        case round =>
          obtain ⟨j, hj, rfl, hgr⟩ := hrel
          have g8w : Grew W8 wr := HG10.out.trans hgr (fun _ _ f => f)
          have HCXr := hid (And.intro (g8w.cell HCX8.out.1 (fun f => f)) (And.intro (g8w.cell HCX8.out.2.1 (fun f => f)) (And.intro (g8w.cell HCX8.out.2.2.1 (fun f => f)) (g8w.cell HCX8.out.2.2.2 (fun f => f)))))
          have HCYr := hid (And.intro (g8w.cell HCY8.out.1 (fun f => f)) (And.intro (g8w.cell HCY8.out.2.1 (fun f => f)) (And.intro (g8w.cell HCY8.out.2.2.1 (fun f => f)) (g8w.cell HCY8.out.2.2.2 (fun f => f)))))
          have HCLr := hid (And.intro (g8w.cell HCL8.out.1 (fun f => f)) (And.intro (g8w.cell HCL8.out.2.1 (fun f => f)) (And.intro (g8w.cell HCL8.out.2.2.1 (fun f => f)) (g8w.cell HCL8.out.2.2.2 (fun f => f)))))
          have HFX9 := hid (fun (W' : World) (k : Grew wr W') => HFX.out W' (g8w.trans k (fun _ _ f => f)))
          have HFY9 := hid (fun (W' : World) (k : Grew wr W') => HFY.out W' (g8w.trans k (fun _ _ f => f)))
          have HG8W := hid g8w
          have HGR := hid hgr
          by_cases hj3 : j < 3
          · have hj3' : (j : Int) < 3 := by omega
            obtain ⟨s, hs⟩ := at_of_lt (l := scq) (i := j) (by simpa using hj3)
            have HCN := hid (show wr.cell? ⟨w1.heap.size, j, none⟩ = some (St s) from by
              rw [cell_of_get (g8w.get HB8.out (fun f => f))]
              obtain rfl | rfl | rfl : j = 0 ∨ j = 1 ∨ j = 2 := by omega
              all_goals (simp at hs; subst hs; rfl))
            obtain ⟨BX, hBX⟩ : ∃ b, decide (s ∈ x.fv) = b := ⟨_, rfl⟩
            obtain ⟨BY, hBY⟩ : ∃ b, decide (s ∈ y.fv) = b := ⟨_, rfl⟩
            have HIG := hid (fun (W' : World) (k : Grew wr W') => by
              have := in_any ((nm_of_rt HRT2.out).grew (hgr.trans k (fun _ _ f => f))) s
              rwa [show decide (s ∈ srt ks2) = (BX || BY) from by rw [← hBX, ← hBY, ← Bool.decide_or]; exact decide_eq_decide.2 ((srt_mem ks2 s).trans ((HMEM2.out s).trans (app_fv5 x y s)))] at this)
            have HBX := hid hBX
            have HBY := hid hBY
            clear hBX hBY hs g8w hgr
            cases BX
            · rw [Bool.false_or] at HIG
              go_wp2
              refine Rg.wp_region_facts 23 Grew [(69, Rg.Ex (.slice aG (srt ks2).length cG)), (70, Rg.Ex (.slice (some ⟨w1.heap.size, 0, none⟩) 3 3)), (71, Rg.Ex (.int .i64 (j : Int))), (72, Rg.Ex (.pointer (some ⟨w1.heap.size, j, none⟩))), (73, Rg.Ex (St s)), (74, Rg.Ex (.bool BY)), (75, Rg.Ex (.agg #[Kv x.kind, St x.text, .slice an x.names.length cn, .slice aa x.parts.length ca])), (76, FV x), (77, Rg.Ex (.slice (some ⟨w1.heap.size, 0, none⟩) 3 3)), (78, Rg.Ex (.int .i64 (j : Int))), (79, Rg.Ex (.pointer (some ⟨w1.heap.size, j, none⟩))), (80, Rg.Ex (St s)), (81, Rg.Ex (.bool false)), (82, Rg.Ex (.bool false)), (83, Rg.Ex (.agg #[Kv y.kind, St y.text, .slice an2 y.names.length cn2, .slice aa2 y.parts.length ca2])), (84, FV y), (85, Rg.Ex (.slice (some ⟨w1.heap.size, 0, none⟩) 3 3)), (86, Rg.Ex (.int .i64 (j : Int))), (87, Rg.Ex (.pointer (some ⟨w1.heap.size, j, none⟩))), (88, Rg.Ex (St s)), (89, Rg.Ex (.bool BY)), (90, Rg.Ex (.bool BY)), (91, Rg.Ex (.bool false))] (by kernel_rfl) (by kernel_rfl) (by rfl) (by rfl)
                (fun a => Fr.refl _ a) (fun a b c h k => h.trans k (fun _ _ f => f)) (Fr.refl _ _).drew
                (Rg.Stays.all ⟨Rg.Ex.stays _, Rg.Ex.stays _, Rg.Ex.stays _, Rg.Ex.stays _, Rg.Ex.stays _, Rg.Ex.stays _, Rg.Ex.stays _, FV.stays _, Rg.Ex.stays _, Rg.Ex.stays _, Rg.Ex.stays _, Rg.Ex.stays _, Rg.Ex.stays _, Rg.Ex.stays _, Rg.Ex.stays _, FV.stays _, Rg.Ex.stays _, Rg.Ex.stays _, Rg.Ex.stays _, Rg.Ex.stays _, Rg.Ex.stays _, Rg.Ex.stays _, Rg.Ex.stays _, trivial⟩) ?_ ?_
              · go_light
                refine Rg.OpGoals.cons (Rg.OpGoal.plain rfl ?_) (Rg.OpGoals.cons (Rg.OpGoal.plain rfl ?_) (Rg.OpGoals.cons (Rg.OpGoal.plain rfl ?_) (Rg.OpGoals.cons (Rg.OpGoal.plain rfl ?_) (Rg.OpGoals.cons (Rg.OpGoal.plain rfl ?_) (Rg.OpGoals.cons (Rg.OpGoal.plain rfl ?_) (Rg.OpGoals.cons (Rg.OpGoal.plain rfl ?_) (Rg.OpGoals.cons (Rg.OpGoal.plain rfl ?_) (Rg.OpGoals.cons (Rg.OpGoal.plain rfl ?_) (Rg.OpGoals.cons (Rg.OpGoal.plain rfl ?_) (Rg.OpGoals.cons (Rg.OpGoal.plain rfl ?_) (Rg.OpGoals.cons (Rg.OpGoal.plain rfl ?_) (Rg.OpGoals.cons (Rg.OpGoal.plain rfl ?_) (Rg.OpGoals.cons (Rg.OpGoal.plain rfl ?_) (Rg.OpGoals.cons (Rg.OpGoal.guarded (d := 82) (want := false) rfl (fun _ _ h => h) ?_) (Rg.OpGoals.cons (Rg.OpGoal.guarded (d := 82) (want := false) rfl (fun _ _ h => h) ?_) (Rg.OpGoals.cons (Rg.OpGoal.guarded (d := 82) (want := false) rfl (fun _ _ h => h) ?_) (Rg.OpGoals.cons (Rg.OpGoal.guarded (d := 82) (want := false) rfl (fun _ _ h => h) ?_) (Rg.OpGoals.cons (Rg.OpGoal.guarded (d := 82) (want := false) rfl (fun _ _ h => h) ?_) (Rg.OpGoals.cons (Rg.OpGoal.guarded (d := 82) (want := false) rfl (fun _ _ h => h) ?_) (Rg.OpGoals.cons (Rg.OpGoal.guarded (d := 82) (want := false) rfl (fun _ _ h => h) ?_) (Rg.OpGoals.cons (Rg.OpGoal.plain rfl ?_) (Rg.OpGoals.cons (Rg.OpGoal.plain rfl ?_) Rg.OpGoals.none))))))))))))))))))))))
                all_goals (intro a' w' hS hR; simp [Rg.Rd, Op.operands, Call.operands, Rg.Fk, Rg.Ex] at hR)
                all_goals (have n0' := hS.cell HCN.out (fun f => f))
                all_goals (have x0' := hS.cell HCXr.out.1 (fun f => f))
                all_goals (have x1' := hS.cell HCXr.out.2.1 (fun f => f))
                all_goals (have x2' := hS.cell HCXr.out.2.2.1 (fun f => f))
                all_goals (have x3' := hS.cell HCXr.out.2.2.2 (fun f => f))
                all_goals (have y0' := hS.cell HCYr.out.1 (fun f => f))
                all_goals (have y1' := hS.cell HCYr.out.2.1 (fun f => f))
                all_goals (have y2' := hS.cell HCYr.out.2.2.1 (fun f => f))
                all_goals (have y3' := hS.cell HCYr.out.2.2.2 (fun f => f))
                all_goals try (simp [Rg.Yields, execOp, Act.eval, hR, n0', x0', x1', x2', x3', y0', y1', y2', y3', hj3', go_sem, Rg.Fk, Rg.Ex, Fr.refl]; done)
                · simp [Rg.Yields, Act.eval, hR, go_sem, Rg.Fk, Rg.Ex]
                  refine (HIG.out _ hS).mono ?_
                  rintro e w2 ⟨rfl, rfl⟩
                  exact ⟨_, rfl, rfl, Fr.refl _ _⟩
                · simp [Rg.Yields, Act.eval, hR, go_sem, Rg.Fk, Rg.Ex]
                  refine (HFX9.out _ hS).mono ?_
                  rintro e w2 ⟨vX, kx, rfl, r1, -, r3, r4⟩
                  exact ⟨vX, rfl, ⟨srt kx, (nm_of_rt r1).mono (fun (_ : Nat) _ (f : False) => f.elim), fun s => (srt_mem kx s).trans (r3 s)⟩, r4⟩
                · obtain ⟨h1, e2⟩ := hR
                  obtain ⟨kx, hn, hm⟩ := h1
                  obtain ⟨ax, cx, e1, -⟩ := hn.shape
                  rw [e1] at hn
                  simp [Rg.Yields, Act.eval, e1, e2, go_sem, Rg.Fk, Rg.Ex]
                  refine (in_any hn s).mono ?_
                  rintro e w2 ⟨rfl, rfl⟩
                  exact ⟨_, rfl, by rw [decide_eq_decide.2 (hm s), HBX.out], Fr.refl _ _⟩
                · simp [Rg.Yields, Act.eval, hR, go_sem, Rg.Fk, Rg.Ex]
                  refine (HFY9.out _ hS).mono ?_
                  rintro e w2 ⟨vX, kx, rfl, r1, -, r3, r4⟩
                  exact ⟨vX, rfl, ⟨srt kx, (nm_of_rt r1).mono (fun (_ : Nat) _ (f : False) => f.elim), fun s => (srt_mem kx s).trans (r3 s)⟩, r4⟩
                · obtain ⟨h1, e2⟩ := hR
                  obtain ⟨kx, hn, hm⟩ := h1
                  obtain ⟨ax, cx, e1, -⟩ := hn.shape
                  rw [e1] at hn
                  simp [Rg.Yields, Act.eval, e1, e2, go_sem, Rg.Fk, Rg.Ex]
                  refine (in_any hn s).mono ?_
                  rintro e w2 ⟨rfl, rfl⟩
                  exact ⟨_, rfl, by rw [decide_eq_decide.2 (hm s), HBY.out], Fr.refl _ _⟩
              · intro w11 hS
                rintro _ rfl _ rfl _ rfl _ rfl _ rfl _ rfl _ rfl v76 h76 _ rfl _ rfl _ rfl _ rfl _ rfl _ rfl _ rfl v84 h84 _ rfl _ rfl _ rfl _ rfl _ rfl _ rfl _ rfl
                refine Rg.Then.nil ?_
                clear h76 h84
                have HS := hid hS
                clear hS
                go_wp2
                go_roundw
                case rel => exact ⟨j + 1, by omega, by go_num, HGR.out.trans HS.out (fun _ _ f => f)⟩
                case measure =>
                  simp [intOf]
                  omega
            · rw [Bool.true_or] at HIG
              go_wp2
              refine Rg.wp_region_facts 23 Grew [(69, Rg.Ex (.slice aG (srt ks2).length cG)), (70, Rg.Ex (.slice (some ⟨w1.heap.size, 0, none⟩) 3 3)), (71, Rg.Ex (.int .i64 (j : Int))), (72, Rg.Ex (.pointer (some ⟨w1.heap.size, j, none⟩))), (73, Rg.Ex (St s)), (74, Rg.Ex (.bool true)), (75, Rg.Ex (.agg #[Kv x.kind, St x.text, .slice an x.names.length cn, .slice aa x.parts.length ca])), (76, FV x), (77, Rg.Ex (.slice (some ⟨w1.heap.size, 0, none⟩) 3 3)), (78, Rg.Ex (.int .i64 (j : Int))), (79, Rg.Ex (.pointer (some ⟨w1.heap.size, j, none⟩))), (80, Rg.Ex (St s)), (81, Rg.Ex (.bool true)), (82, Rg.Ex (.bool true)), (83, Rg.Ex undef), (84, Rg.Ex undef), (85, Rg.Ex undef), (86, Rg.Ex undef), (87, Rg.Ex undef), (88, Rg.Ex undef), (89, Rg.Ex undef), (90, Rg.Ex (.bool true)), (91, Rg.Ex (.bool false))] (by kernel_rfl) (by kernel_rfl) (by rfl) (by rfl)
                (fun a => Fr.refl _ a) (fun a b c h k => h.trans k (fun _ _ f => f)) (Fr.refl _ _).drew
                (Rg.Stays.all ⟨Rg.Ex.stays _, Rg.Ex.stays _, Rg.Ex.stays _, Rg.Ex.stays _, Rg.Ex.stays _, Rg.Ex.stays _, Rg.Ex.stays _, FV.stays _, Rg.Ex.stays _, Rg.Ex.stays _, Rg.Ex.stays _, Rg.Ex.stays _, Rg.Ex.stays _, Rg.Ex.stays _, Rg.Ex.stays _, Rg.Ex.stays _, Rg.Ex.stays _, Rg.Ex.stays _, Rg.Ex.stays _, Rg.Ex.stays _, Rg.Ex.stays _, Rg.Ex.stays _, Rg.Ex.stays _, trivial⟩) ?_ ?_
              · go_light
                refine Rg.OpGoals.cons (Rg.OpGoal.plain rfl ?_) (Rg.OpGoals.cons (Rg.OpGoal.plain rfl ?_) (Rg.OpGoals.cons (Rg.OpGoal.plain rfl ?_) (Rg.OpGoals.cons (Rg.OpGoal.plain rfl ?_) (Rg.OpGoals.cons (Rg.OpGoal.plain rfl ?_) (Rg.OpGoals.cons (Rg.OpGoal.plain rfl ?_) (Rg.OpGoals.cons (Rg.OpGoal.plain rfl ?_) (Rg.OpGoals.cons (Rg.OpGoal.plain rfl ?_) (Rg.OpGoals.cons (Rg.OpGoal.plain rfl ?_) (Rg.OpGoals.cons (Rg.OpGoal.plain rfl ?_) (Rg.OpGoals.cons (Rg.OpGoal.plain rfl ?_) (Rg.OpGoals.cons (Rg.OpGoal.plain rfl ?_) (Rg.OpGoals.cons (Rg.OpGoal.plain rfl ?_) (Rg.OpGoals.cons (Rg.OpGoal.plain rfl ?_) (Rg.OpGoals.cons (Rg.OpGoal.passed (d := 82) (want := false) rfl (fun _ _ h e => nomatch (h.symm.trans e)) (fun _ _ h => by cases h; rfl)) (Rg.OpGoals.cons (Rg.OpGoal.passed (d := 82) (want := false) rfl (fun _ _ h e => nomatch (h.symm.trans e)) (fun _ _ h => by cases h; rfl)) (Rg.OpGoals.cons (Rg.OpGoal.passed (d := 82) (want := false) rfl (fun _ _ h e => nomatch (h.symm.trans e)) (fun _ _ h => by cases h; rfl)) (Rg.OpGoals.cons (Rg.OpGoal.passed (d := 82) (want := false) rfl (fun _ _ h e => nomatch (h.symm.trans e)) (fun _ _ h => by cases h; rfl)) (Rg.OpGoals.cons (Rg.OpGoal.passed (d := 82) (want := false) rfl (fun _ _ h e => nomatch (h.symm.trans e)) (fun _ _ h => by cases h; rfl)) (Rg.OpGoals.cons (Rg.OpGoal.passed (d := 82) (want := false) rfl (fun _ _ h e => nomatch (h.symm.trans e)) (fun _ _ h => by cases h; rfl)) (Rg.OpGoals.cons (Rg.OpGoal.passed (d := 82) (want := false) rfl (fun _ _ h e => nomatch (h.symm.trans e)) (fun _ _ h => by cases h; rfl)) (Rg.OpGoals.cons (Rg.OpGoal.plain rfl ?_) (Rg.OpGoals.cons (Rg.OpGoal.plain rfl ?_) Rg.OpGoals.none))))))))))))))))))))))
                all_goals (intro a' w' hS hR; simp [Rg.Rd, Op.operands, Call.operands, Rg.Fk, Rg.Ex] at hR)
                all_goals (have n0' := hS.cell HCN.out (fun f => f))
                all_goals (have x0' := hS.cell HCXr.out.1 (fun f => f))
                all_goals (have x1' := hS.cell HCXr.out.2.1 (fun f => f))
                all_goals (have x2' := hS.cell HCXr.out.2.2.1 (fun f => f))
                all_goals (have x3' := hS.cell HCXr.out.2.2.2 (fun f => f))
                all_goals try (simp [Rg.Yields, execOp, Act.eval, hR, n0', x0', x1', x2', x3', hj3', go_sem, Rg.Fk, Rg.Ex, Fr.refl]; done)
                · simp [Rg.Yields, Act.eval, hR, go_sem, Rg.Fk, Rg.Ex]
                  refine (HIG.out _ hS).mono ?_
                  rintro e w2 ⟨rfl, rfl⟩
                  exact ⟨_, rfl, rfl, Fr.refl _ _⟩
                · simp [Rg.Yields, Act.eval, hR, go_sem, Rg.Fk, Rg.Ex]
                  refine (HFX9.out _ hS).mono ?_
                  rintro e w2 ⟨vX, kx, rfl, r1, -, r3, r4⟩
                  exact ⟨vX, rfl, ⟨srt kx, (nm_of_rt r1).mono (fun (_ : Nat) _ (f : False) => f.elim), fun s => (srt_mem kx s).trans (r3 s)⟩, r4⟩
                · obtain ⟨h1, e2⟩ := hR
                  obtain ⟨kx, hn, hm⟩ := h1
                  obtain ⟨ax, cx, e1, -⟩ := hn.shape
                  rw [e1] at hn
                  simp [Rg.Yields, Act.eval, e1, e2, go_sem, Rg.Fk, Rg.Ex]
                  refine (in_any hn s).mono ?_
                  rintro e w2 ⟨rfl, rfl⟩
                  exact ⟨_, rfl, by rw [decide_eq_decide.2 (hm s), HBX.out], Fr.refl _ _⟩
              · intro w11 hS
                rintro _ rfl _ rfl _ rfl _ rfl _ rfl _ rfl _ rfl v76 h76 _ rfl _ rfl _ rfl _ rfl _ rfl _ rfl _ rfl _ rfl _ rfl _ rfl _ rfl _ rfl _ rfl _ rfl _ rfl
                refine Rg.Then.nil ?_
                clear h76
                have HS := hid hS
                clear hS
                go_wp2
                go_roundw
                case rel => exact ⟨j + 1, by omega, by go_num, HGR.out.trans HS.out (fun _ _ f => f)⟩
                case measure =>
                  simp [intOf]
                  omega
          · obtain rfl : j = 3 := by omega
            clear hj hj3 hgr
            have hzx := HSZ.out.1
            have hzy := HSZ.out.2
            go_wp2
            refine Rg.wp_region_facts 19 Grew [(92, Rg.Ex (.slice aF 1 cF)), (93, Rg.Ex (Kv 1)), (94, Rg.Ex (.bool true)), (95, Rg.Ex (.bool true)), (96, Rg.Ex (.agg #[Kv 9, (.string ⟨#[]⟩), .slice (some ⟨g, 0, none⟩) 2 2, .slice (some ⟨g', 0, none⟩) 3 3])), (97, Rg.Ex (.bool true)), (98, Rg.Ex (.bool true)), (99, Rg.Ex (.bool true)), (100, Rg.Ex (.agg #[Kv 9, (.string ⟨#[]⟩), .slice (some ⟨g, 0, none⟩) 2 2, .slice (some ⟨g', 0, none⟩) 3 3])), (101, Rg.Ex (Kv ((x.size + y.size + 2 : Nat) : Int))), (102, Rg.Ex (.agg #[Kv x.kind, St x.text, .slice an x.names.length cn, .slice aa x.parts.length ca])), (103, Rg.Ex (Kv (x.size : Int))), (104, Rg.Ex (.agg #[Kv y.kind, St y.text, .slice an2 y.names.length cn2, .slice aa2 y.parts.length ca2])), (105, Rg.Ex (Kv (y.size : Int))), (106, Rg.Ex (Kv ((x.size + y.size : Nat) : Int))), (107, Rg.Ex (Kv ((x.size + y.size + 2 : Nat) : Int))), (108, Rg.Ex (.bool true)), (109, Rg.Ex (.bool true)), (6, Rg.Ex (.bool true))] (by kernel_rfl) (by kernel_rfl) (by rfl) (by rfl)
              (fun a => Fr.refl _ a) (fun a b c h k => h.trans k (fun _ _ f => f)) (Fr.refl _ _).drew
              (Rg.Stays.all ⟨Rg.Ex.stays _, Rg.Ex.stays _, Rg.Ex.stays _, Rg.Ex.stays _, Rg.Ex.stays _, Rg.Ex.stays _, Rg.Ex.stays _, Rg.Ex.stays _, Rg.Ex.stays _, Rg.Ex.stays _, Rg.Ex.stays _, Rg.Ex.stays _, Rg.Ex.stays _, Rg.Ex.stays _, Rg.Ex.stays _, Rg.Ex.stays _, Rg.Ex.stays _, Rg.Ex.stays _, Rg.Ex.stays _, trivial⟩) ?_ ?_
            · go_light
              refine Rg.OpGoals.cons (Rg.OpGoal.plain rfl ?_) (Rg.OpGoals.cons (Rg.OpGoal.plain rfl ?_) (Rg.OpGoals.cons (Rg.OpGoal.plain rfl ?_) (Rg.OpGoals.cons (Rg.OpGoal.plain rfl ?_) (Rg.OpGoals.cons (Rg.OpGoal.guarded (d := 95) (want := true) rfl (fun _ _ h => h) ?_) (Rg.OpGoals.cons (Rg.OpGoal.guarded (d := 95) (want := true) rfl (fun _ _ h => h) ?_) (Rg.OpGoals.cons (Rg.OpGoal.plain rfl ?_) (Rg.OpGoals.cons (Rg.OpGoal.plain rfl ?_) (Rg.OpGoals.cons (Rg.OpGoal.guarded (d := 99) (want := true) rfl (fun _ _ h => h) ?_) (Rg.OpGoals.cons (Rg.OpGoal.guarded (d := 99) (want := true) rfl (fun _ _ h => h) ?_) (Rg.OpGoals.cons (Rg.OpGoal.guarded (d := 99) (want := true) rfl (fun _ _ h => h) ?_) (Rg.OpGoals.cons (Rg.OpGoal.guarded (d := 99) (want := true) rfl (fun _ _ h => h) ?_) (Rg.OpGoals.cons (Rg.OpGoal.guarded (d := 99) (want := true) rfl (fun _ _ h => h) ?_) (Rg.OpGoals.cons (Rg.OpGoal.guarded (d := 99) (want := true) rfl (fun _ _ h => h) ?_) (Rg.OpGoals.cons (Rg.OpGoal.guarded (d := 99) (want := true) rfl (fun _ _ h => h) ?_) (Rg.OpGoals.cons (Rg.OpGoal.guarded (d := 99) (want := true) rfl (fun _ _ h => h) ?_) (Rg.OpGoals.cons (Rg.OpGoal.guarded (d := 99) (want := true) rfl (fun _ _ h => h) ?_) (Rg.OpGoals.cons (Rg.OpGoal.plain rfl ?_) (Rg.OpGoals.cons (Rg.OpGoal.plain rfl ?_) Rg.OpGoals.none))))))))))))))))))
              all_goals (intro a' w' hS hR; simp [Rg.Rd, Op.operands, Call.operands, Rg.Fk, Rg.Ex] at hR)
              all_goals (have l0' := hS.cell HCLr.out.1 (fun f => f))
              all_goals (have l1' := hS.cell HCLr.out.2.1 (fun f => f))
              all_goals (have l2' := hS.cell HCLr.out.2.2.1 (fun f => f))
              all_goals (have l3' := hS.cell HCLr.out.2.2.2 (fun f => f))
              all_goals (have x0' := hS.cell HCXr.out.1 (fun f => f))
              all_goals (have x1' := hS.cell HCXr.out.2.1 (fun f => f))
              all_goals (have x2' := hS.cell HCXr.out.2.2.1 (fun f => f))
              all_goals (have x3' := hS.cell HCXr.out.2.2.2 (fun f => f))
              all_goals (have y0' := hS.cell HCYr.out.1 (fun f => f))
              all_goals (have y1' := hS.cell HCYr.out.2.1 (fun f => f))
              all_goals (have y2' := hS.cell HCYr.out.2.2.1 (fun f => f))
              all_goals (have y3' := hS.cell HCYr.out.2.2.2 (fun f => f))
              all_goals try (simp [Rg.Yields, execOp, Act.eval, hR, l0', l1', l2', l3', x0', x1', x2', x3', y0', y1', y2', y3', go_sem, Rg.Fk, Rg.Ex, Fr.refl]; done)
              · simp [Rg.Yields, Act.eval, hR, go_sem, Rg.Fk, Rg.Ex]
                refine (HOK.out _ (g8w.trans hS (fun _ _ f => f))).mono ?_
                rintro e w2 ⟨rfl, hg2⟩
                exact ⟨_, rfl, rfl, hg2⟩
              · simp [Rg.Yields, Act.eval, hR, go_sem, Rg.Fk, Rg.Ex]
                refine (HZL.out _ (g8w.trans hS (fun _ _ f => f))).mono ?_
                rintro e w2 ⟨rfl, hg2⟩
                exact ⟨_, rfl, rfl, hg2⟩
              · simp [Rg.Yields, Act.eval, hR, go_sem, Rg.Fk, Rg.Ex]
                refine (HZX.out _ (g8w.trans hS (fun _ _ f => f))).mono ?_
                rintro e w2 ⟨rfl, hg2⟩
                exact ⟨_, rfl, rfl, hg2⟩
              · simp [Rg.Yields, Act.eval, hR, go_sem, Rg.Fk, Rg.Ex]
                refine (HZY.out _ (g8w.trans hS (fun _ _ f => f))).mono ?_
                rintro e w2 ⟨rfl, hg2⟩
                exact ⟨_, rfl, rfl, hg2⟩
              · simp [Rg.Yields, execOp, Act.eval, hR, go_sem, Rg.Fk, Rg.Ex, Fr.refl]
                exact IntWalk.i64_in _ (by omega)
              · simp [Rg.Yields, execOp, Act.eval, hR, go_sem, Rg.Fk, Rg.Ex, Fr.refl]
                exact IntWalk.i64_in _ (by omega)
            · intro w11 hS
              rintro _ rfl _ rfl _ rfl _ rfl _ rfl _ rfl _ rfl _ rfl _ rfl _ rfl _ rfl _ rfl _ rfl _ rfl _ rfl _ rfl _ rfl _ rfl _ rfl
              refine Rg.Then.nil ?_
              clear hzx hzy g8w
              have HS := hid hS
              clear hS
              go_wp2
              go_ret
              exact ⟨rfl, HG8.out.trans (HG8W.out.trans HS.out (fun _ _ f => f)) (fun _ _ f => f)⟩
end Go.Proofs.Ytddcfnjmppijjaa
