import Derived.Test.YtddcfnjmppijjaaN12
import Derived.Test.YtddcfnjmppijjaaN7
import Derived.Test.YtddcfnjmppijjaaM26
import Derived.Test.YtddcfnjmppijjaaM16
import Derived.Test.YtddcfnjmppijjaaR3
/-! CoreRight's walk. -/
namespace Go.Proofs.Ytddcfnjmppijjaa
open Go.RowKit

theorem oks_all (l : List X) (h : ∀ x ∈ l, x.ok = true) : oks l = true := by
  induction l with
  | nil => rfl
  | cons x r ih => simp only [oks, h x (by simp), ih (fun y hy => h y (by simp [hy])), Bool.and_self]

theorem intsL_ok : ∀ t ∈ intsL, numOk t = true := by decide
theorem intsL_small : ∀ t ∈ intsL, t.length ≤ 900 := by decide
theorem twos_ar : ∀ t ∈ twosL, ar t = 2 := by decide
theorem ones_ar : ∀ t ∈ onesL, ar t = 1 := by decide
theorem twos_small : ∀ t ∈ twosL, t.length ≤ 900 := by decide
theorem ones_small : ∀ t ∈ onesL, t.length ≤ 900 := by decide

/-- what the maker makes is right -/
theorem good_ok {S : List Str} {x : X} (h : Good S x) (hS : ∀ s ∈ S, Nme s) : x.ok = true := by
  induction h with
  | int S t ht => simp [X.ok, oks, shp, intsL_ok t ht]
  | bool S t ht => rcases ht with rfl | rfl <;> simp [X.ok, oks, shp]
  | nil S => simp [X.ok, oks, shp]
  | sym S => simp [X.ok, oks, shp]
  | var S s hs =>
    have := (hS s hs).1
    cases s with
    | nil => exact absurd rfl this
    | cons c r => simp [X.ok, oks, shp]
  | lam S ns x h0 h1 h2 h3 hx ih =>
    have hne : 0 < ns.length := by cases ns <;> simp_all
    have ho : onceB ns = true := decide_eq_true ⟨fun e => (h3 _ e).1 rfl, h2⟩
    have hi := ih (fun s hs => (List.mem_append.1 hs).elim (hS s) (h3 s))
    simp [X.ok, oks, shp, hi, hne, ho]
  | app S a h1 h2 ha ih =>
    have hi := oks_all a (fun x hx => ih x hx hS)
    simp [X.ok, shp, hi, h1]
  | iff S a h1 ha ih =>
    have hi := oks_all a (fun x hx => ih x hx hS)
    simp [X.ok, shp, hi, h1]
  | lets S ns a h0 h1 h2 h3 hl ha ih =>
    have hne : 0 < ns.length := by cases ns <;> simp_all
    have ho : onceB ns = true := decide_eq_true ⟨fun e => (h3 _ e).1 rfl, h2⟩
    have hi := oks_all a (fun x hx => ih x hx (fun s hs => (List.mem_append.1 hs).elim (hS s) (h3 s)))
    simp [X.ok, shp, hi, hne, ho, hl]
  | prim S t a ht ha ih =>
    have hi := oks_all a (fun x hx => ih x hx hS)
    rcases ht with ⟨h1, h2⟩ | ⟨h1, h2⟩
    · simp [X.ok, shp, hi, twos_ar t h1, h2]
    · simp [X.ok, shp, hi, ones_ar t h1, h2]

theorem good_smn {S : List Str} {x : X} (h : Good S x) (hS : ∀ s ∈ S, Nme s) : Smn 900 x := by
  induction h with
  | int S t ht => exact .mk _ _ _ _ (intsL_small t ht) (by simp) (by simp) (by simp)
  | bool S t ht => exact .mk _ _ _ _ (by rcases ht with rfl | rfl <;> simp) (by simp) (by simp) (by simp)
  | nil S => exact .mk _ _ _ _ (by simp) (by simp) (by simp) (by simp)
  | sym S => exact .mk _ _ _ _ (by simp) (by simp) (by simp) (by simp)
  | var S s hs => exact .mk _ _ _ _ (by have := (hS s hs).2.1; omega) (by simp) (by simp) (by simp)
  | lam S ns x h0 h1 h2 h3 hx ih =>
    have hi := ih (fun s hs => (List.mem_append.1 hs).elim (hS s) (h3 s))
    exact .mk _ _ _ _ (by simp) (by omega) (by simp) (by simpa using hi)
  | app S a h1 h2 ha ih => exact .mk _ _ _ _ (by simp) (by simp) (by omega) (fun x hx => ih x hx hS)
  | iff S a h1 ha ih => exact .mk _ _ _ _ (by simp) (by simp) (by omega) (fun x hx => ih x hx hS)
  | lets S ns a h0 h1 h2 h3 hl ha ih =>
    exact .mk _ _ _ _ (by simp) (by omega) (by omega) (fun x hx => ih x hx (fun s hs => (List.mem_append.1 hs).elim (hS s) (h3 s)))
  | prim S t a ht ha ih =>
    rcases ht with ⟨h1, h2⟩ | ⟨h1, h2⟩
    · exact .mk _ _ _ _ (twos_small t h1) (by simp) (by omega) (fun x hx => ih x hx hS)
    · exact .mk _ _ _ _ (ones_small t h1) (by simp) (by omega) (fun x hx => ih x hx hS)

theorem right_any {w : World} (hG : Gl w) {D : Nat → Prop} {e : Value} {x : X} (h : Rd w D e x) (hs : Sm x) (w' : World) (hg : Grew w w') : Calls Try.prog 34 #[e] w' fun e w'' => e = .returned (.bool x.ok) ∧ Grew w' w'' := by
  obtain ⟨vn, va, rfl, hn, hr⟩ := h
  rw [X.ok_eq]
  cases hs with
  | mk k t ns a ht hnl ha h => exact right_row hG hr h ha w' hg k t vn ns hn ht hnl
theorem refright_any {w : World} {D : Nat → Prop} {e : Value} {x : X} (h : Rd w D e x) (hs : Sm x) (w' : World) (hg : Grew w w') : Calls Try.prog 35 #[e] w' fun e w'' => e = .returned (.bool x.ok) ∧ Grew w' w'' := by
  obtain ⟨vn, va, rfl, hn, hr⟩ := h
  rw [X.ok_eq]
  cases hs with
  | mk k t ns a ht hnl ha h => exact refright_row hr h ha w' hg k t vn ns hn ht hnl

/-- a row of one term, wherever it lies -/
def FS (x : X) (v : Value) (w : World) : Prop := ∃ g, v = .slice (some ⟨g, 0, none⟩) 1 1 ∧ Row w (fun _ => False) v [x]
theorem FS.stays (x : X) (v : Value) (w w' : World) (h : Grew w w') (k : FS x v w) : FS x v w' := by
  obtain ⟨g, e, r⟩ := k
  exact ⟨g, e, r.grew h⟩
theorem FS.of {w : World} {D : Nat → Prop} {x : X} {vn va : Value} (hn : Nm w D vn x.names) (hr : Row w D va x.parts) : FS x (.slice (some ⟨w.heap.size, 0, none⟩) 1 1) (w.alloc (.cells #[Kv x.kind, St x.text, vn, va] 28)) :=
  ⟨_, rfl, row_one hn hr (fun _ _ f => f.elim) (fun f => f) _ rfl⟩
def FU (raw : Str) (x : X) (v : Value) (w : World) : Prop := ∃ g, v = .agg #[.int .i64 10, St raw, .slice none 0 0, .slice (some ⟨g, 0, none⟩) 1 1] ∧ Row w (fun _ => False) (.slice (some ⟨g, 0, none⟩) 1 1) [x]
theorem FU.stays (raw : Str) (x : X) (v : Value) (w w' : World) (h : Grew w w') (k : FU raw x v w) : FU raw x v w' := by
  obtain ⟨g, e, r⟩ := k
  exact ⟨g, e, r.grew h⟩

set_option maxHeartbeats 8000000 in
set_option maxRecDepth 100000 in
theorem cright_walk {W : World} {v : Value} {l : List RT} (hG : Gl W) (h : RRow W (fun _ => False) v l) (n by_ : Int) (raw : Str) : Calls Try.prog 8 #[v, .int .i64 n, .int .i64 by_, St raw] W fun e W' => e = .returned (.bool true) ∧ Grew W W' := by
  have hk := known_any hG
  have hf := fun W1 (g : Grew W W1) => few_any (h.kept g (fun _ f => f.elim))
  have HT := hid (fun W1 (g : Grew W W1) (hn : nodesL l ≤ 40) => term_any (h.kept g (fun _ f => f.elim)) hn)
  have HGL := hid hG
  obtain ⟨ad, cap, rfl, -⟩ := h.shape
  have hrz := size_St raw
  clear h hG
  by_cases h60 : (60 : Int) < raw.length
  · go_enter Try.func8, Try.ntmps8
    go_wp2_with (first | (go_at_call 32; (with_reducible refine hk.mono ?_); rintro e w1 ⟨rfl, hg1⟩) | (go_at_call 17; (with_reducible refine (hf _ hg1).mono ?_); rintro e w2 ⟨b, rfl, hb, rfl⟩; clear hf hk hb; have HG1 := hid hg1; clear hg1; cases b))
    all_goals
      go_ret
      exact ⟨rfl, HG1.out⟩
  · have HRL := hid (show raw.length ≤ 60 by omega)
    go_enter Try.func8, Try.ntmps8
    go_wp2_with (first | (go_at_call 32; (with_reducible refine hk.mono ?_); rintro e w1 ⟨rfl, hg1⟩) | (go_at_call 17; (with_reducible refine (hf _ hg1).mono ?_); rintro e w2 ⟨b, rfl, hb, rfl⟩; clear hf hk; have HB := hid hb; clear hb; have HG1 := hid hg1; clear hg1; cases b) | (go_at_call 18; (with_reducible refine (HT.out _ HG1.out (HB.out (by simp))).mono ?_); rintro e w3 ⟨e', xe, rfl, hrd, hgd, -, hg3⟩; have HRD := hid hrd; have HOK := hid (good_ok hgd (by simp)); have HSM := hid (good_smn hgd (by simp)); have HG3 := hid hg3; obtain ⟨vn, va, rfl, hn, hr⟩ := hrd; obtain ⟨an, cn, rfl, -⟩ := hn.shape; obtain ⟨aa, ca, rfl, -⟩ := hr.shape; have HNM3 := hid hn; have HRW3 := hid hr; clear hn hr hgd hg3) | (go_at_call 33; (with_reducible refine (spoilt_any HSM.out (HRD.out.grew ((Fr.refl _ _).alloc _)) n by_).mono ?_); rintro e w5 ⟨e', xs, rfl, hrd2, hsm2, hg5⟩; have HRD2 := hid hrd2; have HSM2 := hid hsm2; have HG5 := hid hg5; obtain ⟨vn2, va2, rfl, hn2, hr2⟩ := hrd2; obtain ⟨an2, cn2, rfl, -⟩ := hn2.shape; obtain ⟨aa2, ca2, rfl, -⟩ := hr2.shape; clear hn2 hr2 hsm2 hg5))
    · go_ret
      exact ⟨rfl, HG1.out⟩
    obtain ⟨W4, hW4⟩ : ∃ z : World, z = w5.alloc (.cells #[Kv xs.kind, St xs.text, .slice an2 xs.names.length cn2, .slice aa2 xs.parts.length ca2] 28) := ⟨_, rfl⟩
    have g54 : Grew w5 W4 := by rw [hW4]; exact (Fr.refl _ _).alloc _
    have g34 : Grew w3 W4 := (((Fr.refl (fun _ => False) w3).alloc _).trans HG5.out (fun _ _ f => f)).trans g54 (fun _ _ f => f)
    have gW3 : Grew W w3 := HG1.out.trans HG3.out (fun _ _ f => f)
    have gW4 : Grew W W4 := gW3.trans g34 (fun _ _ f => f)
    have hbe := g54.get (HG5.out.get (heap_alloc_new w3 _) (fun f => f)) (fun f => f)
    have hbx : W4.heap[w5.heap.size]? = some (.cells #[Kv xs.kind, St xs.text, .slice an2 xs.names.length cn2, .slice aa2 xs.parts.length ca2] 28 (0, 0)) := by rw [hW4]; exact heap_alloc_new _ _
    have HCE := hid (And.intro (cell_of_get hbe 0) (And.intro (cell_of_get hbe 1) (And.intro (cell_of_get hbe 2) (cell_of_get hbe 3))))
    have HCX := hid (And.intro (cell_of_get hbx 0) (And.intro (cell_of_get hbx 1) (And.intro (cell_of_get hbx 2) (cell_of_get hbx 3))))
    obtain ⟨B, hB⟩ : ∃ B, xs.ok = B := ⟨_, rfl⟩
    obtain ⟨A, hA⟩ : ∃ A, ar raw = A := ⟨_, rfl⟩
    obtain ⟨C, hC⟩ : ∃ C, (oks [xe] && shp 10 raw [] [xe].length) = C := ⟨_, rfl⟩
    have hnil : ∀ W', Nm W' (fun _ => False) (.slice none 0 0) [] := fun W' => ⟨none, 0, rfl, Nat.zero_le _, Nat.zero_le _, .inl rfl⟩
    have HR1 := hid (fun (W' : World) (g : Grew W4 W') => by have := right_any (HGL.out.grew gW3) HRD.out (HSM.out.sm (by omega)) W' (g34.trans g (fun _ _ f => f)); rwa [HOK.out] at this)
    have HR2 := hid (fun (W' : World) (g : Grew W4 W') => by have := right_any (HGL.out.grew (gW3.trans (((Fr.refl (fun _ => False) w3).alloc _).trans HG5.out (fun _ _ f => f)) (fun _ _ f => f))) HRD2.out (HSM2.out.sm (by omega)) W' (g54.trans g (fun _ _ f => f)); rwa [hB] at this)
    have HR3 := hid (fun (W' : World) (g : Grew W4 W') => by have := refright_any HRD2.out (HSM2.out.sm (by omega)) W' (g54.trans g (fun _ _ f => f)); rwa [hB] at this)
    have HA1 := hid (fun (W' : World) (g : Grew W4 W') => by have := arity_any (HGL.out.grew (gW4.trans g (fun _ _ f => f))) raw (by have := HRL.out; omega); rwa [hA] at this)
    have HA2 := hid (fun (W' : World) => by have := refar_any W' raw; rwa [hA] at this)
    have HNM := hid (HNM3.out.grew g34)
    have HRW := hid (HRW3.out.grew g34)
    have HQ1 := hid (fun (W' : World) (v : Value) (g : Grew W4 W') (hrow : Row W' (fun _ => False) v [xe]) => by have := right_row (HGL.out.grew (gW4.trans g (fun _ _ f => f))) hrow (by simpa using HSM.out.sm (by omega)) (by simp) W' (Fr.refl _ _) 10 raw (.slice none 0 0) [] (hnil W') (by have := HRL.out; omega) (by simp); rwa [hC] at this)
    have HQ2 := hid (fun (W' : World) (v : Value) (g : Grew W4 W') (hrow : Row W' (fun _ => False) v [xe]) => by have := refright_row hrow (by simpa using HSM.out.sm (by omega)) (by simp) W' (Fr.refl _ _) 10 raw (.slice none 0 0) [] (hnil W') (by have := HRL.out; omega) (by simp); rwa [hC] at this)
    have HG4 := hid gW4
    rw [← hW4]
    clear hW4 g54 g34 gW3 gW4 hbe hbx hB hA hC hnil HRD HRD2 HNM3 HRW3 HG1 HG3 HG5 HOK HSM HSM2 HT HGL HB
    refine Rg.wp_region_facts 29 Grew [(27, Rg.Ex (.agg #[Kv xe.kind, St xe.text, .slice an xe.names.length cn, .slice aa xe.parts.length ca])), (28, Rg.Ex (.bool true)), (29, Rg.Ex (.bool true)), (30, Rg.Ex (.agg #[Kv xs.kind, St xs.text, .slice an2 xs.names.length cn2, .slice aa2 xs.parts.length ca2])), (31, Rg.Ex (.bool B)), (32, Rg.Ex (.agg #[Kv xs.kind, St xs.text, .slice an2 xs.names.length cn2, .slice aa2 xs.parts.length ca2])), (33, Rg.Ex (.bool B)), (34, Rg.Ex (.bool true)), (35, Rg.Ex (.bool true)), (36, Rg.Ex (.bool true)), (37, Rg.Ex (St raw)), (38, Rg.Ex (.int .i64 A)), (39, Rg.Ex (St raw)), (40, Rg.Ex (.int .i64 A)), (41, Rg.Ex (.bool true)), (42, Rg.Ex (.bool true)), (43, Rg.Ex (.bool true)), (44, Rg.Ex (St raw)), (45, Rg.Ex (.agg #[Kv xe.kind, St xe.text, .slice an xe.names.length cn, .slice aa xe.parts.length ca])), (46, FS xe), (47, FU raw xe), (48, Rg.Ex (.bool C)), (49, Rg.Ex (St raw)), (50, Rg.Ex (.agg #[Kv xe.kind, St xe.text, .slice an xe.names.length cn, .slice aa xe.parts.length ca])), (51, FS xe), (52, FU raw xe), (53, Rg.Ex (.bool C)), (54, Rg.Ex (.bool true)), (55, Rg.Ex (.bool true))] (by kernel_rfl) (by kernel_rfl) (by rfl) (by rfl)
      (fun a => Fr.refl _ a) (fun a b c h k => h.trans k (fun _ _ f => f)) (Fr.refl _ _).drew
      (Rg.Stays.all ⟨Rg.Ex.stays _, Rg.Ex.stays _, Rg.Ex.stays _, Rg.Ex.stays _, Rg.Ex.stays _, Rg.Ex.stays _, Rg.Ex.stays _, Rg.Ex.stays _, Rg.Ex.stays _, Rg.Ex.stays _, Rg.Ex.stays _, Rg.Ex.stays _, Rg.Ex.stays _, Rg.Ex.stays _, Rg.Ex.stays _, Rg.Ex.stays _, Rg.Ex.stays _, Rg.Ex.stays _, Rg.Ex.stays _, FS.stays _, FU.stays _ _, Rg.Ex.stays _, Rg.Ex.stays _, Rg.Ex.stays _, FS.stays _, FU.stays _ _, Rg.Ex.stays _, Rg.Ex.stays _, Rg.Ex.stays _, trivial⟩) ?_ ?_
    · go_light
      refine Rg.OpGoals.cons (Rg.OpGoal.plain rfl ?_) (Rg.OpGoals.cons (Rg.OpGoal.plain rfl ?_) (Rg.OpGoals.cons (Rg.OpGoal.plain rfl ?_) (Rg.OpGoals.cons (Rg.OpGoal.guarded (d := 29) (want := true) rfl (fun _ _ h => h) ?_) (Rg.OpGoals.cons (Rg.OpGoal.guarded (d := 29) (want := true) rfl (fun _ _ h => h) ?_) (Rg.OpGoals.cons (Rg.OpGoal.guarded (d := 29) (want := true) rfl (fun _ _ h => h) ?_) (Rg.OpGoals.cons (Rg.OpGoal.guarded (d := 29) (want := true) rfl (fun _ _ h => h) ?_) (Rg.OpGoals.cons (Rg.OpGoal.guarded (d := 29) (want := true) rfl (fun _ _ h => h) ?_) (Rg.OpGoals.cons (Rg.OpGoal.plain rfl ?_) (Rg.OpGoals.cons (Rg.OpGoal.plain rfl ?_) (Rg.OpGoals.cons (Rg.OpGoal.guarded (d := 36) (want := true) rfl (fun _ _ h => h) ?_) (Rg.OpGoals.cons (Rg.OpGoal.guarded (d := 36) (want := true) rfl (fun _ _ h => h) ?_) (Rg.OpGoals.cons (Rg.OpGoal.guarded (d := 36) (want := true) rfl (fun _ _ h => h) ?_) (Rg.OpGoals.cons (Rg.OpGoal.guarded (d := 36) (want := true) rfl (fun _ _ h => h) ?_) (Rg.OpGoals.cons (Rg.OpGoal.guarded (d := 36) (want := true) rfl (fun _ _ h => h) ?_) (Rg.OpGoals.cons (Rg.OpGoal.plain rfl ?_) (Rg.OpGoals.cons (Rg.OpGoal.plain rfl ?_) (Rg.OpGoals.cons (Rg.OpGoal.guarded (d := 43) (want := true) rfl (fun _ _ h => h) ?_) (Rg.OpGoals.cons (Rg.OpGoal.guarded (d := 43) (want := true) rfl (fun _ _ h => h) ?_) (Rg.OpGoals.cons (Rg.OpGoal.guarded (d := 43) (want := true) rfl (fun _ _ h => h) ?_) (Rg.OpGoals.cons (Rg.OpGoal.guarded (d := 43) (want := true) rfl (fun _ _ h => h) ?_) (Rg.OpGoals.cons (Rg.OpGoal.guarded (d := 43) (want := true) rfl (fun _ _ h => h) ?_) (Rg.OpGoals.cons (Rg.OpGoal.guarded (d := 43) (want := true) rfl (fun _ _ h => h) ?_) (Rg.OpGoals.cons (Rg.OpGoal.guarded (d := 43) (want := true) rfl (fun _ _ h => h) ?_) (Rg.OpGoals.cons (Rg.OpGoal.guarded (d := 43) (want := true) rfl (fun _ _ h => h) ?_) (Rg.OpGoals.cons (Rg.OpGoal.guarded (d := 43) (want := true) rfl (fun _ _ h => h) ?_) (Rg.OpGoals.cons (Rg.OpGoal.guarded (d := 43) (want := true) rfl (fun _ _ h => h) ?_) (Rg.OpGoals.cons (Rg.OpGoal.guarded (d := 43) (want := true) rfl (fun _ _ h => h) ?_) (Rg.OpGoals.cons (Rg.OpGoal.plain rfl ?_) Rg.OpGoals.none))))))))))))))))))))))))))))
      all_goals (intro a' w' hS hR; simp [Rg.Rd, Op.operands, Call.operands, Rg.Fk, Rg.Ex] at hR)
      all_goals (have e0' := hS.cell HCE.out.1 (fun f => f))
      all_goals (have e1' := hS.cell HCE.out.2.1 (fun f => f))
      all_goals (have e2' := hS.cell HCE.out.2.2.1 (fun f => f))
      all_goals (have e3' := hS.cell HCE.out.2.2.2 (fun f => f))
      all_goals (have x0' := hS.cell HCX.out.1 (fun f => f))
      all_goals (have x1' := hS.cell HCX.out.2.1 (fun f => f))
      all_goals (have x2' := hS.cell HCX.out.2.2.1 (fun f => f))
      all_goals (have x3' := hS.cell HCX.out.2.2.2 (fun f => f))
      all_goals try (simp [Rg.Yields, execOp, Act.eval, hR, e0', e1', e2', e3', x0', x1', x2', x3', go_sem, Rg.Fk, Rg.Ex, Fr.refl]; done)
      · simp [Rg.Yields, Act.eval, hR, go_sem, Rg.Fk, Rg.Ex]
        refine (HR1.out _ hS).mono ?_
        rintro e w2 ⟨rfl, h2⟩
        exact ⟨_, rfl, rfl, h2⟩
      · simp [Rg.Yields, Act.eval, hR, go_sem, Rg.Fk, Rg.Ex]
        refine (HR2.out _ hS).mono ?_
        rintro e w2 ⟨rfl, h2⟩
        exact ⟨_, rfl, rfl, h2⟩
      · simp [Rg.Yields, Act.eval, hR, go_sem, Rg.Fk, Rg.Ex]
        refine (HR3.out _ hS).mono ?_
        rintro e w2 ⟨rfl, h2⟩
        exact ⟨_, rfl, rfl, h2⟩
      · simp [Rg.Yields, Act.eval, hR, go_sem, Rg.Fk, Rg.Ex]
        refine (HA1.out _ hS).mono ?_
        rintro e w2 ⟨rfl, rfl⟩
        exact ⟨_, rfl, rfl, Fr.refl _ _⟩
      · simp [Rg.Yields, Act.eval, hR, go_sem, Rg.Fk, Rg.Ex]
        refine (HA2.out w').mono ?_
        rintro e w2 ⟨rfl, h2⟩
        exact ⟨_, rfl, rfl, h2⟩
      · simp [Rg.Yields, execOp, Act.eval, hR, go_sem, Rg.Fk, Rg.Ex]
        exact ⟨FS.of (HNM.out.grew hS) (HRW.out.grew hS), (Fr.refl _ _).alloc _⟩
      · obtain ⟨g, hg, hrow⟩ := hR.2
        simp [Rg.Yields, execOp, Act.eval, hR.1, hg, go_sem, Rg.Fk, Rg.Ex, Fr.refl]
        exact ⟨g, rfl, hg ▸ hrow⟩
      · obtain ⟨g, hg, hrow⟩ := hR
        simp [Rg.Yields, Act.eval, hg, go_sem, Rg.Fk, Rg.Ex]
        refine (HQ1.out _ (.slice (some ⟨g, 0, none⟩) 1 1) hS hrow).mono ?_
        rintro e w2 ⟨rfl, h2⟩
        exact ⟨_, rfl, rfl, h2⟩
      · simp [Rg.Yields, execOp, Act.eval, hR, go_sem, Rg.Fk, Rg.Ex]
        exact ⟨FS.of (HNM.out.grew hS) (HRW.out.grew hS), (Fr.refl _ _).alloc _⟩
      · obtain ⟨g, hg, hrow⟩ := hR.2
        simp [Rg.Yields, execOp, Act.eval, hR.1, hg, go_sem, Rg.Fk, Rg.Ex, Fr.refl]
        exact ⟨g, rfl, hg ▸ hrow⟩
      · obtain ⟨g, hg, hrow⟩ := hR
        simp [Rg.Yields, Act.eval, hg, go_sem, Rg.Fk, Rg.Ex]
        refine (HQ2.out _ (.slice (some ⟨g, 0, none⟩) 1 1) hS hrow).mono ?_
        rintro e w2 ⟨rfl, h2⟩
        exact ⟨_, rfl, rfl, h2⟩
    · intro w6 hS
      rintro _ rfl _ rfl _ rfl _ rfl _ rfl _ rfl _ rfl _ rfl _ rfl _ rfl _ rfl _ rfl _ rfl _ rfl _ rfl _ rfl _ rfl _ rfl _ rfl v46 h46 v47 h47 _ rfl _ rfl _ rfl v51 h51 v52 h52 _ rfl _ rfl _ rfl
      refine Rg.Then.nil ?_
      have HS := hid hS
      clear hS
      go_wp2
      go_ret
      exact ⟨rfl, HG4.out.trans HS.out (fun _ _ f => f)⟩
end Go.Proofs.Ytddcfnjmppijjaa
