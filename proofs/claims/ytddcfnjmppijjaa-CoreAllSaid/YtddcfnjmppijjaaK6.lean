import Derived.Test.YtddcfnjmppijjaaT2
import Derived.Test.YtddcfnjmppijjaaT4
import Derived.Test.YtddcfnjmppijjaaM26
/-! CoreAll's walk. -/
namespace Go.Proofs.Ytddcfnjmppijjaa
open Go.RowKit

/-- all that is asked of a term that is made -/
inductive Ho : X → Prop
  | mk (k : Int) (t : Str) (ns : List Str) (a : List X) (ht : t.length ≤ 900) (hn : ns.length ≤ 900) (ha : a.length ≤ 900) (hs : ∀ s ∈ ns, s.length ≤ 30) (h6 : k = 6 → a.length = 1) (h9 : k = 9 → a.length = ns.length + 1) (h8 : k = 8 ∨ k = 10 → a ≠ []) (h10 : k = 10 → t ≠ [])
      (h69 : k = 6 ∨ k = 9 → ns ≠ [] ∧ ∀ s ∈ ns, s ≠ []) (h5 : k = 5 → a = []) (h0 : form k t ns (txl a) ≠ []) (h : ∀ x ∈ a, Ho x) : Ho (.mk k t ns a)
theorem intsL_ne6 : ∀ t ∈ intsL, t ≠ [] := by decide
theorem twos_ne6 : ∀ t ∈ twosL, t ≠ [] := by decide
theorem ones_ne6 : ∀ t ∈ onesL, t ≠ [] := by decide
theorem good_ho {S : List Str} {x : X} (h : Good S x) (hS : ∀ s ∈ S, Nme s) : Ho x := by
  induction h with
  | int S t ht => exact .mk _ _ _ _ (intsL_small2 t ht) (by simp) (by simp) (by simp) (by simp) (by simp) (by simp) (by simp) (by simp) (by simp) (by simpa [form] using intsL_ne6 t ht) (by simp)
  | bool S t ht => exact .mk _ _ _ _ (by rcases ht with rfl | rfl <;> simp) (by simp) (by simp) (by simp) (by simp) (by simp) (by simp) (by simp) (by simp) (by simp) (by rcases ht with rfl | rfl <;> simp [form]) (by simp)
  | nil S => exact .mk _ _ _ _ (by simp) (by simp) (by simp) (by simp) (by simp) (by simp) (by simp) (by simp) (by simp) (by simp) (by simp [form]) (by simp)
  | sym S => exact .mk _ _ _ _ (by simp) (by simp) (by simp) (by simp) (by simp) (by simp) (by simp) (by simp) (by simp) (by simp) (by simp [form]) (by simp)
  | var S s hs => exact .mk _ _ _ _ (by have := (hS s hs).2.1; omega) (by simp) (by simp) (by simp) (by simp) (by simp) (by simp) (by simp) (by simp) (by simp) (by simpa [form] using (hS s hs).1) (by simp)
  | lam S ns x h0 h1 h2 h3 hx ih =>
    have hi := ih (fun s hs => (List.mem_append.1 hs).elim (hS s) (h3 s))
    exact .mk _ _ _ _ (by simp) (by omega) (by simp) (fun s hs => (h3 s hs).2.1) (by simp) (by simp) (by simp) (by simp) (fun _ => ⟨h0, fun s hs => (h3 s hs).1⟩) (by simp) (by simp [form]) (by simpa using hi)
  | app S a h1 h2 ha ih => exact .mk _ _ _ _ (by simp) (by simp) (by omega) (by simp) (by simp) (by simp) (by simp) (by simp) (by simp) (by simp) (by simp [form]) (fun x hx => ih x hx hS)
  | iff S a h1 ha ih => exact .mk _ _ _ _ (by simp) (by simp) (by omega) (by simp) (by simp) (by simp) (fun _ e => by rw [e] at h1; simp at h1) (by simp) (by simp) (by simp) (by simp [form]) (fun x hx => ih x hx hS)
  | lets S ns a h0 h1 h2 h3 hl ha ih =>
    exact .mk _ _ _ _ (by simp) (by omega) (by omega) (fun s hs => (h3 s hs).2.1) (by simp) (fun _ => hl) (by simp) (by simp) (fun _ => ⟨h0, fun s hs => (h3 s hs).1⟩) (by simp) (by simp [form]) (fun x hx => ih x hx (fun s hs => (List.mem_append.1 hs).elim (hS s) (h3 s)))
  | prim S t a ht ha ih =>
    rcases ht with ⟨h1, h2⟩ | ⟨h1, h2⟩
    · exact .mk _ _ _ _ (twos_small2 t h1) (by simp) (by omega) (by simp) (by simp) (by simp) (fun _ e => by rw [e] at h2; simp at h2) (fun _ => twos_ne6 t h1) (by simp) (by simp) (by simp [form]) (fun x hx => ih x hx hS)
    · exact .mk _ _ _ _ (ones_small2 t h1) (by simp) (by omega) (by simp) (by simp) (by simp) (fun _ e => by rw [e] at h2; simp at h2) (fun _ => ones_ne6 t h1) (by simp) (by simp) (by simp [form]) (fun x hx => ih x hx hS)
theorem Ho.smn {x : X} (h : Ho x) : Smn 900 x := by
  induction h with
  | mk k t ns a ht hn ha _ _ _ _ _ _ _ _ _ ih => exact .mk k t ns a ht hn ha ih
theorem Ho.vo {x : X} (h : Ho x) : Vo x := by
  induction h with
  | mk k t ns a _ _ _ _ _ _ _ _ _ h5 _ _ ih => exact .mk k t ns a h5 ih
theorem Ho.parts {x : X} (h : Ho x) : ∀ y ∈ x.parts, Ho y := by
  cases h with
  | mk k t ns a _ _ _ _ _ _ _ _ _ _ _ h => exact h

theorem gt_len_bds (ns ts : List Str) : (gt (bds ns ts)).length ≤ (gt ns).length + (gt (ts.take ns.length)).length + 2 * ns.length := by
  induction ns generalizing ts with
  | nil => cases ts <;> simp [bds, gt]
  | cons n r ih =>
    cases ts with
    | nil => simp [bds, gt]
    | cons t s => have := ih s; simp only [bds, gt, List.length_cons, List.length_append, List.take_succ_cons, List.length_nil]; omega
theorem gt_len_last (ts : List Str) (i : Nat) : (gt (ts.take i)).length + (ts[i]?.getD []).length ≤ (gt ts).length := by
  induction ts generalizing i with
  | nil => simp [gt]
  | cons t s ih =>
    cases i with
    | zero => simp [gt]; omega
    | succ i => have := ih i; simp only [gt, List.take_succ_cons, List.length_cons, List.length_append, List.getElem?_cons_succ]; omega
theorem form_len (k : Int) (t : Str) (ns ts : List Str) : (form k t ns ts).length ≤ 20 + t.length + (gt ns).length + 2 * ns.length + (gt ts).length := by
  have h1 := gl_le_gt ns
  have h2 := gl_le_gt ts
  have h3 := gl_le_gt (bds ns ts)
  have h4 := gt_len_bds ns ts
  have h5 := gt_len_last ts ns.length
  have h6 : (ts.headD []).length ≤ (gt ts).length := by cases ts <;> simp [gt]; omega
  unfold form
  split
  · simp; omega
  split
  · simp; omega
  split
  · simp only [List.length_append, List.length_cons, List.length_nil]; omega
  split
  · simp only [List.length_append, List.length_cons, List.length_nil]; omega
  split
  · simp only [List.length_append, List.length_cons, List.length_nil]; omega
  split
  · simp only [List.length_append, List.length_cons, List.length_nil]; omega
  split
  · simp only [List.length_append, List.length_cons, List.length_nil]; omega
  · omega
theorem gt_len_names (ns : List Str) (h : ∀ s ∈ ns, s.length ≤ 30) : (gt ns).length ≤ 31 * ns.length := by
  induction ns with
  | nil => simp [gt]
  | cons n r ih =>
    have h1 := h n (by simp)
    have h2 := ih (fun s hs => h s (by simp [hs]))
    simp only [gt, List.length_cons, List.length_append]; omega
theorem gt_len_txl (a : List X) (h : ∀ x ∈ a, x.tx.length ≤ 40000 * x.size) : (gt (txl a)).length ≤ 40000 * sizes a + a.length := by
  induction a with
  | nil => simp [gt, txl]
  | cons x r ih =>
    have h1 := h x (by simp)
    have h2 := ih (fun y hy => h y (by simp [hy]))
    simp only [gt, txl, sizes, List.length_cons, List.length_append]; omega
theorem Ho.len {x : X} (h : Ho x) : x.tx.length ≤ 40000 * x.size := by
  induction h with
  | mk k t ns a ht hn ha hs _ _ _ _ _ _ _ _ ih =>
    have h1 := form_len k t ns (txl a)
    have h2 := gt_len_names ns hs
    have h3 := gt_len_txl a ih
    simp only [X.tx, X.size]; omega
theorem Ho.wo {x : X} (h : Ho x) : x.size ≤ 1000000 → Wo x := by
  induction h with
  | mk k t ns a ht hn ha hs h6 h9 h8 h10 h69 h5 h0 h ih =>
    intro hsz
    have hl := (Ho.mk k t ns a ht hn ha hs h6 h9 h8 h10 h69 h5 h0 h).len
    simp only [X.tx, X.size] at hl hsz
    refine .mk k t ns a h6 h9 h8 h10 h69 (by omega) (by omega) h0 (by omega) (fun x hx => ih x hx ?_)
    obtain ⟨i, hi, rfl⟩ := List.getElem_of_mem hx
    have := size_le_sizes a i a[i] (List.getElem?_eq_getElem hi)
    omega

/-- the names free in x, in order -/
def FS (x : X) (v : Value) (w : World) : Prop := ∃ m, Nm w (fun _ => False) v m ∧ m.Pairwise (fun x y => x ≤ y) ∧ m.Nodup ∧ ∀ y, y ∈ m ↔ y ∈ x.fv
theorem FS.stays (x : X) (v : Value) (w w' : World) (h : Grew w w') (k : FS x v w) : FS x v w' := by
  obtain ⟨m, k1, k2⟩ := k
  exact ⟨m, k1.grew h, k2⟩
/-- a place -/
def FK (n : Nat) (v : Value) (_ : World) : Prop := ∃ k : Nat, k < n ∧ v = Kv (k : Int)
theorem FK.stays (n : Nat) (v : Value) (w w' : World) (_ : Grew w w') (k : FK n v w) : FK n v w' := k
/-- a place in a row of terms -/
def FP (g o n : Nat) (v : Value) (_ : World) : Prop := ∃ k : Nat, k < n ∧ v = .pointer (some ⟨g, o + k * 4, none⟩)
theorem FP.stays (g o n : Nat) (v : Value) (w w' : World) (_ : Grew w w') (k : FP g o n v w) : FP g o n v w' := k
/-- a part -/
def FPt (q : Nat) (x : X) (v : Value) (w : World) : Prop := ∃ (y : X) (an : Option Addr) (cn : Nat) (aa : Option Addr) (ca : Nat), y ∈ x.parts ∧ v = .agg #[Kv y.kind, St y.text, .slice an y.names.length cn, .slice aa y.parts.length ca] ∧ Rd w (fun b => b = q) (.agg #[Kv y.kind, St y.text, .slice an y.names.length cn, .slice aa y.parts.length ca]) y
theorem FPt.stays (q : Nat) (x : X) (v : Value) (w w' : World) (h : Grew w w') (k : FPt q x v w) : FPt q x v w' := by
  obtain ⟨y, an, cn, aa, ca, k1, k2, k3⟩ := k
  exact ⟨y, an, cn, aa, ca, k1, k2, k3.grew h⟩
theorem refsize_any {w : World} {D : Nat → Prop} {e : Value} {x : X} (h : Rd w D e x) (hs : x.size ≤ 100000) (w' : World) (hg : Grew w w') : Calls Try.prog 46 #[e] w' fun e w'' => e = .returned (Kv (x.size : Int)) ∧ Grew w' w'' := by
  obtain ⟨vn, va, rfl, hn, hr⟩ := h
  cases x with
  | mk k t ns a =>
    simp only [X.size] at hs
    exact refsize_row hr (by show 1 + sizes a ≤ 1000000; omega) w' hg (Kv k) (St t) vn
theorem size_any6 {w : World} {D : Nat → Prop} {e : Value} {x : X} (h : Rd w D e x) (hs : x.size ≤ 100000) (w' : World) (hg : Grew w w') : Calls Try.prog 39 #[e] w' fun e w'' => e = .returned (Kv (x.size : Int)) ∧ Grew w' w'' := by
  obtain ⟨vn, va, rfl, hn, hr⟩ := h
  cases x with
  | mk k t ns a =>
    simp only [X.size] at hs
    exact size_row hr w' hg (Kv k) (St t) vn (show 1 + sizes a ≤ 4611686018427387904 by omega)

set_option maxHeartbeats 8000000 in
set_option maxRecDepth 100000 in
theorem call_walk {W : World} {v : Value} {l : List RT} (hG : Gl W) (h : RRow W (fun _ => False) v l) (n : Int) : Calls Try.prog 14 #[v, .int .i64 n] W fun e W' => e = .returned (.bool true) ∧ Grew W W' := by
  have hk := known_any hG
  have hf := fun W1 (g : Grew W W1) => few_any (h.kept g (fun _ f => f.elim))
  have HT := hid (fun W1 (g : Grew W W1) (hn : nodesL l ≤ 40) => term_any (h.kept g (fun _ f => f.elim)) hn)
  obtain ⟨ad, cap, rfl, -⟩ := h.shape
  clear h hG
  go_enter Try.func14, Try.ntmps14
  go_wp2_with (first | (go_at_call 32; (with_reducible refine hk.mono ?_); rintro e w1 ⟨rfl, hg1⟩) | (go_at_call 17; (with_reducible refine (hf _ hg1).mono ?_); rintro e w2 ⟨b, rfl, hb, rfl⟩; clear hf hk; have HB := hid hb; clear hb; have HG1 := hid hg1; cases b) | (go_at_call 18; (with_reducible refine (HT.out _ HG1.out (HB.out (by simp))).mono ?_); rintro e w3 ⟨e', x0, rfl, hrd, hgd, hsz, hg3⟩; have HRD := hid hrd; have HGD := hid hgd; have HSZ := hid hsz; have HG3 := hid hg3; obtain ⟨vn, va, rfl, hn, hr⟩ := hrd; obtain ⟨an, cn, rfl, -⟩ := hn.shape; obtain ⟨aa, ca, rfl, -⟩ := hr.shape; clear hn hr hgd hsz hg3 hg1))
  · go_ret
    exact ⟨rfl, HG1.out⟩
  obtain ⟨W5, hW5⟩ : ∃ q : World, q = w3.alloc (.cells #[Kv x0.kind, St x0.text, .slice an x0.names.length cn, .slice aa x0.parts.length ca] 28) := ⟨_, rfl⟩
  have g35 : Grew w3 W5 := by rw [hW5]; exact (Fr.refl _ _).alloc _
  have hb5 : W5.heap[w3.heap.size]? = some (.cells #[Kv x0.kind, St x0.text, .slice an x0.names.length cn, .slice aa x0.parts.length ca] 28 (0, 0)) := by rw [hW5]; exact heap_alloc_new w3 _
  have HRD5 := hid ((HRD.out.mono (E := fun b => b = w3.heap.size) (fun b hb e => by omega)).grew g35)
  have HB5 := hid hb5
  have HG5 := hid ((HG1.out.trans HG3.out (fun _ _ f => f)).trans g35 (fun _ _ f => f))
  have HQ := hid (show W.heap.size ≤ w3.heap.size from (HG1.out.trans HG3.out (fun _ _ f => f)).size)
  have HHO := hid (good_ho HGD.out (by simp))
  have HSZ0 := hid (show x0.size ≤ 100000 by have := HSZ.out; have := HB.out (by simp); omega)
  rw [← hW5]
  clear hW5 g35 hb5 HRD HGD HSZ HT HB
  generalize w3.heap.size = q at *
  go_wp2
  go_loopw [6] (fun b wr => ∃ (i : Nat) (x : X) (an : Option Addr) (cn : Nat) (aa : Option Addr) (ca : Nat), i ≤ 6 ∧ b = .int .i64 i ∧ wr.heap[q]? = some (.cells #[Kv x.kind, St x.text, .slice an x.names.length cn, .slice aa x.parts.length ca] 28 (0, 0)) ∧
    Rd wr (fun b => b = q) (.agg #[Kv x.kind, St x.text, .slice an x.names.length cn, .slice aa x.parts.length ca]) x ∧ Ho x ∧ x.size ≤ 100000 ∧ Fr (fun b => b = q) W5 wr) (fun i _ => 6 - (intOf i).toNat)
  case atStart => exact ⟨0, x0, an, cn, aa, ca, Nat.zero_le _, rfl, HB5.out, HRD5.out, HHO.out, HSZ0.out, Fr.refl _ _⟩
  case round =>
    obtain ⟨i, x, an, cn, aa, ca, hi, rfl, hq, hrd, hho, hsz, hfr⟩ := hrel
    have HFR := hid hfr
    have HQB := hid hq
    have HRD := hid hrd
    have HHOx := hid hho
    have HSZx := hid hsz
    have hend : ∀ w2, Grew wr w2 → Grew W w2 := fun w2 k => HG5.out.trans (hfr.trans (Grew.any k) (fun _ _ e => e)) (fun b hb e => by have := HQ.out; omega)
    have HEND := hid hend
    clear hend hfr
    by_cases hi6 : i < 6
    · have hi6' : (i : Int) < 6 := by omega
      have HX := hid (And.intro (cell_of_get hq 0) (And.intro (cell_of_get hq 1) (And.intro (cell_of_get hq 2) (cell_of_get hq 3))))
      have HTX := hid (fun (W' : World) (k : Grew wr W') => text_any (hrd.mono (E := fun _ => False) (fun _ _ f => f.elim)) (hho.wo (by omega)) W' k)
      have HRT := hid (fun (W' : World) (k : Grew wr W') => reftext_any hrd (hho.wo (by omega)) W' k)
      have HFR1 := hid (fun (W' : World) (k : Grew wr W') => free_any (hrd.grew k) hho.smn hsz)
      have HRF := hid (fun (W' : World) (k : Grew wr W') => reffree_any hrd hho.vo hsz W' k)
      have HSZ1 := hid (fun (W' : World) (k : Grew wr W') => size_any6 hrd hsz W' k)
      have HSZ2 := hid (fun (W' : World) (k : Grew wr W') => refsize_any hrd hsz W' k)
      clear hq hrd hho hsz
      go_wp2
      refine Rg.wp_region_facts 20 Grew [(18, Rg.Ex (.agg #[Kv x.kind, St x.text, .slice an x.names.length cn, .slice aa x.parts.length ca])), (19, Rg.Ex (St x.tx)), (20, Rg.Ex (.agg #[Kv x.kind, St x.text, .slice an x.names.length cn, .slice aa x.parts.length ca])), (21, Rg.Ex (St x.tx)), (22, Rg.Ex (.bool false)), (23, Rg.Ex (.bool false)), (24, Rg.Ex (.agg #[Kv x.kind, St x.text, .slice an x.names.length cn, .slice aa x.parts.length ca])), (25, FS x), (26, Rg.Ex (.agg #[Kv x.kind, St x.text, .slice an x.names.length cn, .slice aa x.parts.length ca])), (27, FS x), (28, Rg.Ex (.bool true)), (29, Rg.Ex (.bool false)), (30, Rg.Ex (.bool false)), (31, Rg.Ex (.bool false)), (32, Rg.Ex (.agg #[Kv x.kind, St x.text, .slice an x.names.length cn, .slice aa x.parts.length ca])), (33, Rg.Ex (Kv (x.size : Int))), (34, Rg.Ex (.agg #[Kv x.kind, St x.text, .slice an x.names.length cn, .slice aa x.parts.length ca])), (35, Rg.Ex (Kv (x.size : Int))), (36, Rg.Ex (.bool false)), (37, Rg.Ex (.bool false))] (by kernel_rfl) (by kernel_rfl) (by rfl) (by rfl)
        (fun a => Fr.refl _ a) (fun a b c h k => h.trans k (fun _ _ f => f)) (Fr.refl _ _).drew
        (Rg.Stays.all ⟨Rg.Ex.stays _, Rg.Ex.stays _, Rg.Ex.stays _, Rg.Ex.stays _, Rg.Ex.stays _, Rg.Ex.stays _, Rg.Ex.stays _, FS.stays _, Rg.Ex.stays _, FS.stays _, Rg.Ex.stays _, Rg.Ex.stays _, Rg.Ex.stays _, Rg.Ex.stays _, Rg.Ex.stays _, Rg.Ex.stays _, Rg.Ex.stays _, Rg.Ex.stays _, Rg.Ex.stays _, Rg.Ex.stays _, trivial⟩) ?_ ?_
      · go_light
        refine Rg.OpGoals.cons (Rg.OpGoal.plain rfl ?_) (Rg.OpGoals.cons (Rg.OpGoal.plain rfl ?_) (Rg.OpGoals.cons (Rg.OpGoal.plain rfl ?_) (Rg.OpGoals.cons (Rg.OpGoal.plain rfl ?_) (Rg.OpGoals.cons (Rg.OpGoal.plain rfl ?_) (Rg.OpGoals.cons (Rg.OpGoal.plain rfl ?_) (Rg.OpGoals.cons (Rg.OpGoal.guarded (d := 23) (want := false) rfl (fun _ _ h => h) ?_) (Rg.OpGoals.cons (Rg.OpGoal.guarded (d := 23) (want := false) rfl (fun _ _ h => h) ?_) (Rg.OpGoals.cons (Rg.OpGoal.guarded (d := 23) (want := false) rfl (fun _ _ h => h) ?_) (Rg.OpGoals.cons (Rg.OpGoal.guarded (d := 23) (want := false) rfl (fun _ _ h => h) ?_) (Rg.OpGoals.cons (Rg.OpGoal.guarded (d := 23) (want := false) rfl (fun _ _ h => h) ?_) (Rg.OpGoals.cons (Rg.OpGoal.guarded (d := 23) (want := false) rfl (fun _ _ h => h) ?_) (Rg.OpGoals.cons (Rg.OpGoal.plain rfl ?_) (Rg.OpGoals.cons (Rg.OpGoal.plain rfl ?_) (Rg.OpGoals.cons (Rg.OpGoal.guarded (d := 31) (want := false) rfl (fun _ _ h => h) ?_) (Rg.OpGoals.cons (Rg.OpGoal.guarded (d := 31) (want := false) rfl (fun _ _ h => h) ?_) (Rg.OpGoals.cons (Rg.OpGoal.guarded (d := 31) (want := false) rfl (fun _ _ h => h) ?_) (Rg.OpGoals.cons (Rg.OpGoal.guarded (d := 31) (want := false) rfl (fun _ _ h => h) ?_) (Rg.OpGoals.cons (Rg.OpGoal.guarded (d := 31) (want := false) rfl (fun _ _ h => h) ?_) (Rg.OpGoals.cons (Rg.OpGoal.plain rfl ?_) Rg.OpGoals.none)))))))))))))))))))
        all_goals (intro a' w' hS hR; simp [Rg.Rd, Op.operands, Call.operands, Rg.Fk, Rg.Ex] at hR)
        all_goals (have x0' := hS.cell HX.out.1 (fun f => f))
        all_goals (have x1' := hS.cell HX.out.2.1 (fun f => f))
        all_goals (have x2' := hS.cell HX.out.2.2.1 (fun f => f))
        all_goals (have x3' := hS.cell HX.out.2.2.2 (fun f => f))
        all_goals try (simp [Rg.Yields, execOp, Act.eval, hR, x0', x1', x2', x3', go_sem, Rg.Fk, Rg.Ex, Fr.refl]; done)
        · simp [Rg.Yields, Act.eval, hR, go_sem, Rg.Fk, Rg.Ex]
          refine (HTX.out _ hS).mono ?_
          rintro e w2 ⟨rfl, hg2⟩
          exact ⟨_, rfl, rfl, hg2⟩
        · simp [Rg.Yields, Act.eval, hR, go_sem, Rg.Fk, Rg.Ex]
          refine (HRT.out _ hS).mono ?_
          rintro e w2 ⟨rfl, hg2⟩
          exact ⟨_, rfl, rfl, hg2⟩
        · simp [Rg.Yields, Act.eval, hR, go_sem, Rg.Fk, Rg.Ex]
          refine (HFR1.out _ hS).mono ?_
          rintro e w2 ⟨v, ks, rfl, k1, k2, k3, k4⟩
          exact ⟨v, rfl, ⟨srt ks, (nm_of_rt k1).mono (fun (_ : Nat) _ (f : False) => f.elim), srt_sorted ks, srt_nodup k2, fun y => (srt_mem ks y).trans (k3 y)⟩, k4⟩
        · simp [Rg.Yields, Act.eval, hR, go_sem, Rg.Fk, Rg.Ex]
          refine (HRF.out _ hS).mono ?_
          rintro e w2 ⟨v, ks, rfl, k1, k2, k3, k4, k5⟩
          exact ⟨v, rfl, ⟨ks, k1, k2, k3, k4⟩, k5⟩
        · obtain ⟨⟨m1, a1, a2, a3, a4⟩, ⟨m2, b1, b2, b3, b4⟩⟩ := hR
          obtain ⟨ad1, cap1, e1, -⟩ := a1.shape
          obtain ⟨ad2, cap2, e2, -⟩ := b1.shape
          rw [e1] at a1
          rw [e2] at b1
          have hc := texts_any a1 b1
          rw [decide_eq_true (sorted_eq m1 m2 a2 b2 a3 b3 (fun y => (a4 y).trans (b4 y).symm))] at hc
          simp [Rg.Yields, Act.eval, e1, e2, go_sem, Rg.Fk, Rg.Ex]
          refine hc.mono ?_
          rintro e w2 ⟨rfl, hg2⟩
          exact ⟨_, rfl, rfl, hg2⟩
        · simp [Rg.Yields, Act.eval, hR, go_sem, Rg.Fk, Rg.Ex]
          refine (HSZ1.out _ hS).mono ?_
          rintro e w2 ⟨rfl, hg2⟩
          exact ⟨_, rfl, rfl, hg2⟩
        · simp [Rg.Yields, Act.eval, hR, go_sem, Rg.Fk, Rg.Ex]
          refine (HSZ2.out _ hS).mono ?_
          rintro e w2 ⟨rfl, hg2⟩
          exact ⟨_, rfl, rfl, hg2⟩
      · intro w5 hS
        rintro _ rfl _ rfl _ rfl _ rfl _ rfl _ rfl _ rfl v25 h25 _ rfl v27 h27 _ rfl _ rfl _ rfl _ rfl _ rfl _ rfl _ rfl _ rfl _ rfl _ rfl
        refine Rg.Then.nil ?_
        clear h25 h27
        have e3 := hS.cell HX.out.2.2.2 (fun f => f)
        have HS9 := hid hS
        by_cases hp0 : x.parts.length = 0
        · rw [hp0] at e3
          clear hS
          go_wp2
          go_ret
          exact ⟨rfl, HEND.out _ HS9.out⟩
        · have hp1 : ((x.parts.length : Int) == 0) = false := by rw [beq_eq_false_iff_ne]; omega
          replace HX := hid (And.intro (hS.cell HX.out.1 (fun f => f)) (And.intro (hS.cell HX.out.2.1 (fun f => f)) (And.intro (hS.cell HX.out.2.2.1 (fun f => f)) (hS.cell HX.out.2.2.2 (fun f => f)))))
          obtain ⟨_, _, e, -, hrow⟩ := HRD.out.grew hS
          simp only [Value.agg.injEq] at e
          cases e
          obtain ⟨g, o, c, e, hc1, hc2, hDg, hel⟩ := (hrow.elems).resolve_left (fun e => by rw [e] at hp0; simp at hp0)
          simp only [Value.slice.injEq] at e
          obtain ⟨rfl, -, rfl⟩ := e
          have HEL := hid (fun (k : Nat) (hk : k < x.parts.length) (w2 : World) (hg2 : Grew w5 w2) => show ∃ (y : X) (an2 : Option Addr) (cn2 : Nat) (aa2 : Option Addr) (ca2 : Nat), y ∈ x.parts ∧ w2.cell? ⟨g, o + k * 4, none⟩ = some (Kv y.kind) ∧ w2.cell? ⟨g, o + k * 4 + 1, none⟩ = some (St y.text) ∧
              w2.cell? ⟨g, o + k * 4 + 2, none⟩ = some (.slice an2 y.names.length cn2) ∧ w2.cell? ⟨g, o + k * 4 + 3, none⟩ = some (.slice aa2 y.parts.length ca2) ∧ Rd w2 (fun b => b = q) (.agg #[Kv y.kind, St y.text, .slice an2 y.names.length cn2, .slice aa2 y.parts.length ca2]) y from by
            obtain ⟨y, hy⟩ := at_of_lt (l := x.parts) hk
            obtain ⟨an2, cn2, aa2, ca2, he⟩ := hel k y hy
            exact ⟨y, an2, cn2, aa2, ca2, List.mem_of_getElem? hy, hg2.cell he.c0 (fun f => f), hg2.cell he.c1 (fun f => f), hg2.cell he.c2 (fun f => f), hg2.cell he.c3 (fun f => f), ⟨_, _, rfl, he.nm.grew hg2, he.row.grew hg2⟩⟩)
          have HQ5 := hid (hS.get HQB.out (fun f => f))
          have HWN := hid (fun (a : Int) (w : World) => wn x.parts.length (by omega) (by
            have h1 := len_le_sizes x.parts
            have h2 := X.size_eq x
            have h3 := HSZx.out
            omega) a w)
          clear hel hrow hDg hc1 hc2 hS
          go_wp2
          refine Rg.wp_region_facts 11 Grew [(42, Rg.Ex (.pointer (some ⟨q, 3, none⟩))), (43, Rg.Ex (.slice (some ⟨g, o, none⟩) x.parts.length ca)), (44, Rg.Ex (.int .i64 n)), (45, Rg.Ex (.int .i64 (i : Int))), (46, Rg.Ex (.int .i64 (IntKind.i64.wrap (n + (i : Int))))), (47, Rg.Ex (.pointer (some ⟨q, 3, none⟩))), (48, Rg.Ex (.slice (some ⟨g, o, none⟩) x.parts.length ca)), (49, Rg.Ex (Kv (x.parts.length : Int))), (50, FK x.parts.length), (51, FP g o x.parts.length), (52, FPt q x)] (by kernel_rfl) (by kernel_rfl) (by rfl) (by rfl)
            (fun a => Fr.refl _ a) (fun a b c h k => h.trans k (fun _ _ f => f)) (Fr.refl _ _).drew
            (Rg.Stays.all ⟨Rg.Ex.stays _, Rg.Ex.stays _, Rg.Ex.stays _, Rg.Ex.stays _, Rg.Ex.stays _, Rg.Ex.stays _, Rg.Ex.stays _, Rg.Ex.stays _, FK.stays _, FP.stays _ _ _, FPt.stays _ _, trivial⟩) ?_ ?_
          · go_light
            refine Rg.OpGoals.cons (Rg.OpGoal.plain rfl ?_) (Rg.OpGoals.cons (Rg.OpGoal.plain rfl ?_) (Rg.OpGoals.cons (Rg.OpGoal.plain rfl ?_) (Rg.OpGoals.cons (Rg.OpGoal.plain rfl ?_) (Rg.OpGoals.cons (Rg.OpGoal.plain rfl ?_) (Rg.OpGoals.cons (Rg.OpGoal.plain rfl ?_) (Rg.OpGoals.cons (Rg.OpGoal.plain rfl ?_) (Rg.OpGoals.cons (Rg.OpGoal.plain rfl ?_) (Rg.OpGoals.cons (Rg.OpGoal.plain rfl ?_) (Rg.OpGoals.cons (Rg.OpGoal.plain rfl ?_) (Rg.OpGoals.cons (Rg.OpGoal.plain rfl ?_) Rg.OpGoals.none))))))))))
            all_goals (intro a' w' hS hR; simp [Rg.Rd, Op.operands, Call.operands, Rg.Fk, Rg.Ex] at hR)
            all_goals (have x3' := hS.cell HX.out.2.2.2 (fun f => f))
            all_goals try (simp [Rg.Yields, execOp, Act.eval, hR, x3', go_sem, Rg.Fk, Rg.Ex, Fr.refl]; done)
            · simp [Rg.Yields, Act.eval, hR, go_sem, Rg.Fk, Rg.Ex]
              refine (HWN.out _ w').mono ?_
              rintro e w2 ⟨k, hk, rfl, rfl⟩
              exact ⟨_, rfl, ⟨k, hk, rfl⟩, Fr.refl _ _⟩
            · obtain ⟨e1, ⟨k, hk, e2⟩⟩ := hR
              have hk2 : (k : Int) < (x.parts.length : Int) := by omega
              simp [Rg.Yields, execOp, Act.eval, e1, e2, hk2, go_sem, Rg.Fk, Rg.Ex, Fr.refl]
              exact ⟨k, hk, rfl⟩
            · obtain ⟨k, hk, e1⟩ := hR
              obtain ⟨y, an2, cn2, aa2, ca2, hy, d0, d1, d2, d3, hrd⟩ := HEL.out k hk w' hS
              simp [Rg.Yields, execOp, Act.eval, e1, d0, d1, d2, d3, go_sem, Rg.Fk, Rg.Ex, Fr.refl]
              exact ⟨y, _, _, _, _, hy, rfl, hrd⟩
          · intro w6 hS
            rintro _ rfl _ rfl _ rfl _ rfl _ rfl _ rfl _ rfl _ rfl v50 h50 v51 h51 v52 h52
            refine Rg.Then.nil ?_
            clear h50 h51
            obtain ⟨y, an2, cn2, aa2, ca2, hy, rfl, hrdy⟩ := h52
            have HQ6 := hid (hS.get HQ5.out (fun f => f))
            obtain ⟨k0, k1, k2, k3⟩ := And.intro (cell_of_get HQ6.out 0) (And.intro (cell_of_get HQ6.out 1) (And.intro (cell_of_get HQ6.out 2) (cell_of_get HQ6.out 3)))
            obtain ⟨f0, f1, f2, f3⟩ := And.intro (frozen_of_get HQ6.out 0) (And.intro (frozen_of_get HQ6.out 1) (And.intro (frozen_of_get HQ6.out 2) (frozen_of_get HQ6.out 3)))
            have HS := hid hS
            have HRDY := hid hrdy
            have HY := hid hy
            clear hS hrdy hy e3 hp0 hp1
            go_upto_region 8 with (fail)
            clear k0 k1 k2 k3 f0 f1 f2 f3
            obtain ⟨W8, hW8⟩ : ∃ z : World, z = set4 w6 q (Kv y.kind) (St y.text) (.slice an2 y.names.length cn2) (.slice aa2 y.parts.length ca2) := ⟨_, rfl⟩
            have hset : Fr (fun b => b = q) w6 W8 := by rw [hW8]; exact set4_fr _ _ _ _ _ _
            have hq8 : W8.heap[q]? = some (.cells #[Kv y.kind, St y.text, .slice an2 y.names.length cn2, .slice aa2 y.parts.length ca2] 28 (0, 0)) := by rw [hW8]; exact set4_heap HQ6.out _ _ _ _
            have HQ8 := hid hq8
            have HRD8 := hid (HRDY.out.kept hset (fun _ e => e))
            have HF8 := hid ((HFR.out.trans (Grew.any (HS9.out.trans HS.out (fun _ _ f => f))) (fun _ _ e => e)).trans hset (fun _ _ e => e))
            have HH8 := hid (HHOx.out.parts y HY.out)
            have HZ8 := hid (show y.size ≤ 100000 by
              obtain ⟨i, hi, rfl⟩ := List.getElem_of_mem HY.out
              have h1 := size_le_sizes x.parts i _ (List.getElem?_eq_getElem hi)
              have h2 := X.size_eq x
              have h3 := HSZx.out
              have h4 := X.size_eq x
              cases x with
              | mk k t ns a => simp only [X.size, X.parts] at *; omega)
            dsimp only [set4] at hW8
            rw [← hW8]
            clear hW8 hset hq8 HEL HWN HTX HRT HFR1 HRF HSZ1 HSZ2
            go_wp2
            go_roundw
            case rel => exact ⟨i + 1, y, an2, cn2, aa2, ca2, by omega, by go_num, HQ8.out, HRD8.out, HH8.out, HZ8.out, HF8.out⟩
            case measure => simp [intOf]; omega
    · obtain rfl : i = 6 := by omega
      clear hq hrd hho hsz
      go_wp2
      go_ret
      exact ⟨rfl, HEND.out _ (Fr.refl _ _)⟩
end Go.Proofs.Ytddcfnjmppijjaa
