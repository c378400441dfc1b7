import Derived.Test.YtddcfnjmppijjaaM3
/-! The terms that the maker makes; Var, part. -/
namespace Go.Proofs.Ytddcfnjmppijjaa
open Go.RowKit

/-- the numbers' texts -/
def intsL : List Str := [[48], [49], [45, 53], [55], [49, 48, 48, 48, 48, 48, 48, 48, 48, 48, 48, 48, 48, 48, 48, 48, 48, 48, 48, 48, 48], [50], [45, 51], [49, 48], [53]]

/-- a term as the maker makes it, of names that are there -/
inductive Good : List Str → X → Prop
  | int (S : List Str) (t : Str) (ht : t ∈ intsL) : Good S (.mk 1 t [] [])
  | bool (S : List Str) (t : Str) (ht : t = [35, 116] ∨ t = [35, 102]) : Good S (.mk 2 t [] [])
  | nil (S : List Str) : Good S (.mk 3 [] [] [])
  | sym (S : List Str) : Good S (.mk 4 [115] [] [])
  | var (S : List Str) (s : Str) (hs : s ∈ S) : Good S (.mk 5 s [] [])
  | lam (S ns : List Str) (x : X) (h0 : ns ≠ []) (h1 : ns.length ≤ 4) (h2 : ns.Nodup) (h3 : ∀ n ∈ ns, Nme n) (hx : Good (S ++ ns) x) : Good S (.mk 6 [] ns [x])
  | app (S : List Str) (a : List X) (h1 : 2 ≤ a.length) (h2 : a.length ≤ 4) (ha : ∀ x ∈ a, Good S x) : Good S (.mk 7 [] [] a)
  | iff (S : List Str) (a : List X) (h1 : a.length = 3) (ha : ∀ x ∈ a, Good S x) : Good S (.mk 8 [] [] a)
  | lets (S ns : List Str) (a : List X) (h0 : ns ≠ []) (h1 : ns.length ≤ 4) (h2 : ns.Nodup) (h3 : ∀ n ∈ ns, Nme n) (hl : a.length = ns.length + 1) (ha : ∀ x ∈ a, Good (S ++ ns) x) : Good S (.mk 9 [] ns a)
  | prim (S : List Str) (t : Str) (a : List X) (ht : (t ∈ twosL ∧ a.length = 2) ∨ (t ∈ onesL ∧ a.length = 1)) (ha : ∀ x ∈ a, Good S x) : Good S (.mk 10 t [] a)

/-- what a making leaves -/
def MkPost (w : World) (mb N : Nat) (S : List Str) (c : Nat) (e : Ending) (w' : World) : Prop :=
  ∃ e' x N', e = .returned e' ∧ Rd w' (fun b => b < w.heap.size) e' x ∧ Good S x ∧ x.size ≤ c ∧ Mk w' mb N' ∧ N ≤ N' ∧ N' ≤ N + c ∧ Fr (fun b => b = mb) w w'

/-- Make makes of a raw term whose parts are these -/
def MkOk (w : World) (mb : Nat) (va : Value) (l : List RT) : Prop :=
  ∀ (w' : World) (k n : Int) (N : Nat) (vs : Value) (S : List Str), Fr (fun b => b = mb) w w' → Mk w' mb N → N + 8 * (1 + nodesL l) ≤ 900000 → Nm w' (fun b => b = mb) vs S → (∀ s ∈ S, Nme s) → S.length + 8 * (1 + nodesL l) ≤ 900000 →
    Calls Try.prog 30 #[.pointer (some ⟨mb, 0, none⟩), .agg #[Kv k, Kv n, va], vs] w' (MkPost w' mb N S (8 * (1 + nodesL l)))

/-- the raw parts, of which each can be made -/
def Parts (w : World) (mb : Nat) (va : Value) (l : List RT) : Prop :=
  ∃ ad cap, va = .slice ad l.length cap ∧ l.length ≤ cap ∧ cap ≤ maxLen ∧ ∀ i r, l[i]? = some r → ∃ g o aa ca, ad = some ⟨g, o, none⟩ ∧ g ≠ mb ∧ REl w (fun b => b = mb) g (o + i * 3) r aa ca ∧ MkOk w mb (.slice aa r.l.length ca) r.l

/-- how great a part may be -/
def pn (l : List RT) (i : Nat) : Nat := match l[i]? with | some r => 8 * (1 + nodesL r.l) | none => 1
def pns (l : List RT) : Nat → Nat
  | 0 => 0
  | m + 1 => pns l m + pn l m
theorem pns_take (l : List RT) (m : Nat) : pns l m ≤ 8 * nodesL (l.take m) + m := by
  induction m with
  | zero => simp [pns]
  | succ m ih =>
    unfold pns pn
    cases h : l[m]? with
    | none =>
      have : l.take (m + 1) = l.take m := by rw [List.take_add_one, h]; simp
      simp only [this]; omega
    | some r =>
      have := nodesL_take l m r h
      simp only; omega
theorem nodesL_take_le (l : List RT) (i : Nat) : nodesL (l.take i) ≤ nodesL l := by
  induction l generalizing i with
  | nil => simp [nodesL]
  | cons x r ih =>
    cases i with
    | zero => simp [nodesL]
    | succ i => have := ih i; simp only [List.take_succ_cons, nodesL]; omega
theorem pns_le (l : List RT) (m : Nat) : pns l m ≤ 8 * nodesL l + m := by
  have := pns_take l m
  have := nodesL_take_le l m
  omega
theorem pn_le (l : List RT) (i : Nat) : pn l i ≤ 8 * nodesL l + 1 := by
  unfold pn
  cases h : l[i]? with
  | none => simp
  | some r =>
    have := nodesL_take l i r h
    have := nodesL_take_le l (i + 1)
    simp only; omega

set_option maxHeartbeats 1000000 in
theorem var_any (w : World) (s : Str) : Calls Try.prog 28 #[St s] w fun e w' => e = .returned (.agg #[Kv 5, St s, .slice none 0 0, .slice none 0 0]) ∧ Grew w w' := by
  have HG := hid (fun o => (Fr.refl (fun _ => False) w).alloc o)
  go_enter Try.func28, Try.ntmps28
  go_wp2
  exact bodyPost_ret (v := .agg #[Kv 5, St s, .slice none 0 0, .slice none 0 0]) (by simp [results, Try.results28, go_sem]) rfl ⟨rfl, HG.out _⟩

/-- a term of no names and no parts reads as itself -/
theorem rd_atom (w : World) (D : Nat → Prop) (k : Int) (t : Str) : Rd w D (.agg #[Kv k, St t, .slice none 0 0, .slice none 0 0]) (.mk k t [] []) :=
  ⟨_, _, rfl, ⟨none, 0, rfl, Nat.zero_le _, Nat.zero_le _, .inl rfl⟩, .nil none 0 (Nat.zero_le _)⟩

/-- four cells of a block set one behind the other -/
abbrev set4 (w : World) (b : Nat) (u0 u1 u2 u3 : Value) : World := (((w.setCell ⟨b, 0, none⟩ u0).setCell ⟨b, 1, none⟩ u1).setCell ⟨b, 2, none⟩ u2).setCell ⟨b, 3, none⟩ u3
theorem set4_heap {w : World} {b : Nat} {a0 a1 a2 a3 : Value} {t : TypeId} (h : w.heap[b]? = some (.cells #[a0, a1, a2, a3] t (0, 0))) (u0 u1 u2 u3 : Value) : (set4 w b u0 u1 u2 u3).heap[b]? = some (.cells #[u0, u1, u2, u3] t (0, 0)) := by
  simp [set4, World.setCell, Array.getElem?_modify, h]
theorem set4_fr (w : World) (b : Nat) (u0 u1 u2 u3 : Value) : Fr (fun k => k = b) w (set4 w b u0 u1 u2 u3) := by
  have h0 : Fr (fun k => k = b) w (w.setCell ⟨b, 0, none⟩ u0) := (Fr.refl (fun k => k = b) w).setCell (p := ⟨b, 0, none⟩) (fun _ => rfl) u0
  have h1 := h0.setCell (p := ⟨b, 1, none⟩) (fun _ => rfl) u1
  have h2 := h1.setCell (p := ⟨b, 2, none⟩) (fun _ => rfl) u2
  exact h2.setCell (p := ⟨b, 3, none⟩) (fun _ => rfl) u3

theorem Try.s28 : (Try.prog.info? 28).map (·.size) = some 4 := by kernel_rfl

/-- a function whose result lies in a block of four cells hands them back -/
theorem res28 {fn : Func} {p : Tmp} (h : fn.results = #[.cell p 28]) (tmps : Array Value) (w : World) (g : Nat) {t : TypeId} {u0 u1 u2 u3 : Value} {fr : Nat × Nat} (hp : tmps.getD p undef = .pointer (some ⟨g, 0, none⟩)) (hg : w.heap[g]? = some (.cells #[u0, u1, u2, u3] t fr)) :
    (results fn tmps).run Try.prog w = .ok (.agg #[u0, u1, u2, u3]) w := by
  exact results_cell_row h tmps w g t _ fr _ hp hg Try.underlying28 rfl Try.s28

theorem mk_done {w W w1 : World} {mb N c b N' : Nat} {S : List Str} {x : X} {vn va : Value} (hg : Grew w W) (hb0 : w.heap.size ≤ b) (hb1 : b < W.heap.size) (hmb : mb < w.heap.size) (hf : Fr (fun k => k = mb) W w1)
    (hn : Nm w1 (fun k => k < W.heap.size) vn x.names) (hr : Row w1 (fun k => k < W.heap.size) va x.parts) (hgd : Good S x) (hs : x.size ≤ c) (hm : Mk w1 mb N') (h1 : N ≤ N') (h2 : N' ≤ N + c) (u0 u1 u2 u3 : Value) :
    MkPost w mb N S c (.returned (.agg #[Kv x.kind, St x.text, vn, va])) (set4 w1 b u0 u1 u2 u3) := by
  have h4 := set4_fr w1 b u0 u1 u2 u3
  refine ⟨_, x, N', rfl, ⟨vn, va, rfl, (hn.kept h4 (fun k e => by subst e; exact hb1)).mono (fun k _ e => Nat.lt_of_lt_of_le e hg.size), (hr.kept h4 (fun k e => by subst e; exact hb1)).mono (fun k _ e => Nat.lt_of_lt_of_le e hg.size)⟩, hgd, hs, h4.get hm (by omega), h1, h2, ?_⟩
  exact ((Grew.any hg).trans hf (fun _ _ e => e)).trans h4 (fun k hk e => by omega)

set_option maxHeartbeats 2000000 in
theorem part_make {w : World} {mb : Nat} {va : Value} {l : List RT} (h : Parts w mb va l) {w' : World} (k n : Int) (N : Nat) (vs : Value) (S : List Str) (i : Nat) (r : RT) (hr : l[i]? = some r) (hF : Fr (fun b => b = mb) w w') (hM : Mk w' mb N) (hN : N + 8 * (1 + nodesL r.l) ≤ 900000) (hS : Nm w' (fun b => b = mb) vs S) (hSn : ∀ s ∈ S, Nme s) (hSl : S.length + 8 * (1 + nodesL r.l) ≤ 900000) :
    Calls Try.prog 56 #[.pointer (some ⟨mb, 0, none⟩), .agg #[Kv k, Kv n, va], .int .i64 i, vs] w' (MkPost w' mb N S (8 * (1 + nodesL r.l))) := by
  obtain ⟨ad, cap, rfl, hc, hcm, hp⟩ := h
  obtain ⟨g, o, aa, ca, rfl, hg, he, hm⟩ := hp i r hr
  have hi : i < l.length := (List.getElem?_eq_some_iff.1 hr).1
  have c0 := hF.cell he.c0 hg
  have c1 := hF.cell he.c1 hg
  have c2 := hF.cell he.c2 hg
  have hgl : g < w'.heap.size := World.block_lt_of_cell? w' _ c0
  obtain ⟨sa, sc, rfl, -⟩ := hS.shape
  replace hcm : cap ≤ 9223372036854775807 := hcm
  have HM := hid (fun (o1 o2 : Obj) => hm ((w'.alloc o1).alloc o2) r.k r.n N _ S (hF.trans (((Fr.refl (fun _ => False) w').alloc o1).alloc o2) (fun _ _ f => f.elim)) (hM.grew (((Fr.refl _ w').alloc o1).alloc o2)) hN (hS.grew (((Fr.refl _ w').alloc o1).alloc o2)) hSn hSl)
  have hml : mb < w'.heap.size := lt_of_get hM
  have HB := hid (fun (o1 o2 : Obj) (w1 : World) (f : Fr (fun b => b = mb) ((w'.alloc o1).alloc o2) w1) => f.get (k := w'.heap.size + 1) (o := o2) (by have := heap_alloc_new (w'.alloc o1) o2; simpa using this) (by omega))
  generalize r.k = rk at *
  generalize r.n = rn at *
  generalize r.l = rl at *
  clear hp he hm hr hM hS hN hSl
  go_enter Try.func56, Try.ntmps56
  go_wp2_with (go_at_call 30; refine (HM.out _ _).mono ?_; rintro e w1 ⟨e', x, N', rfl, ⟨vn, va, rfl, hnm, hrow⟩, hgd, hsz, hmk, hn1, hn2, hfr⟩; obtain ⟨an, cn, rfl, -⟩ := hnm.shape; obtain ⟨ax, cx, rfl, -⟩ := hrow.shape; have hb1 := HB.out _ _ _ hfr; have f0 := frozen_of_get hb1 0; have f1 := frozen_of_get hb1 1; have f2 := frozen_of_get hb1 2; have f3 := frozen_of_get hb1 3; have d0 := cell_of_get hb1 0; have d1 := cell_of_get hb1 1; have d2 := cell_of_get hb1 2; have d3 := cell_of_get hb1 3; have HFR := hid hfr; have HGD := hid hgd; have HSZ := hid hsz; have HNM := hid hnm; have HRW := hid hrow; have HMK := hid hmk; clear hfr hgd hsz hnm hrow hmk)
  refine bodyPost_ret (res28 Try.results56 _ _ (w'.heap.size + 1) rfl (set4_heap hb1 _ _ _ _)) rfl ?_
  exact mk_done (W := (w'.alloc _).alloc _) (((Fr.refl _ w').alloc _).alloc _) (by omega) (by simp) hml HFR.out HNM.out HRW.out HGD.out HSZ.out HMK.out hn1 hn2 _ _ _ _

/-- within: a place -/
theorem wn (n : Nat) (hn : 0 < n) (hn2 : n ≤ 1000000) (a : Int) (w : World) : Calls Try.prog 38 #[.int .i64 a, .int .i64 n] w fun e w' => ∃ k : Nat, k < n ∧ e = .returned (Kv k) ∧ w = w' := by
  obtain ⟨k, hk, -, hp⟩ := place5 a n hn hn2 _ rfl
  refine (hp w).mono ?_
  rintro e w' ⟨rfl, rfl⟩
  exact ⟨k, hk, rfl, rfl⟩

theorem Nm.at {w : World} {D : Nat → Prop} {v : Value} {ns : List Str} (h : Nm w D v ns) (h0 : ns ≠ []) : ∃ g o c, v = .slice (some ⟨g, o, none⟩) ns.length c ∧ ns.length ≤ c ∧ c ≤ maxLen ∧ ¬ D g ∧ g < w.heap.size ∧ ∀ j, j < ns.length → ∃ s ∈ ns, w.cell? ⟨g, o + j, none⟩ = some (St s) := by
  obtain ⟨ad, cap, h1, h2, h3, h4⟩ := h
  rcases h4 with h4 | ⟨g, o, rfl, hD, hc⟩
  · exact absurd h4 h0
  · have hp : 0 < ns.length := by cases ns <;> simp_all
    exact ⟨g, o, cap, h1, h2, h3, hD, World.block_lt_of_cell? w _ (hc 0 hp), fun j hj => ⟨ns[j], List.getElem_mem _, hc j hj⟩⟩

/-- the numbers that stand in for a part that is not there -/
def constL : List Str := [[48], [49], [50], [45, 51], [49, 48]]
theorem const_cells (w : World) (o : Nat) (ho : o = w.heap.size) (k : Nat) (hk : k < 5) : ∃ s ∈ intsL, (w.alloc (.cells #[.string ⟨#[48]⟩, .string ⟨#[49]⟩, .string ⟨#[50]⟩, .string ⟨#[45, 51]⟩, .string ⟨#[49, 48]⟩] 9)).cell? ⟨o, k, none⟩ = some (St s) := by
  subst ho
  obtain ⟨s, hs⟩ : ∃ s, constL[k]? = some s := ⟨constL[k], List.getElem?_eq_getElem _⟩
  refine ⟨s, ?_, ?_⟩
  · have hm := List.mem_of_getElem? hs
    revert hm
    have : ∀ s ∈ constL, s ∈ intsL := by decide
    exact this s
  · have h : constL.map St = (#[.string ⟨#[48]⟩, .string ⟨#[49]⟩, .string ⟨#[50]⟩, .string ⟨#[45, 51]⟩, .string ⟨#[49, 48]⟩] : Array Value).toList := rfl
    simp only [World.cell?, heap_alloc_new]
    rw [← Array.getElem?_toList, ← h, List.getElem?_map, hs]
    rfl

theorem heap_a2 (w : World) (o1 o2 : Obj) : ((w.alloc o1).alloc o2).heap[w.heap.size + 1]? = some o2 := by
  have := heap_alloc_new (w.alloc o1) o2
  simpa using this
theorem heap_a3 (w : World) (o1 o2 o3 : Obj) : (((w.alloc o1).alloc o2).alloc o3).heap[w.heap.size + 1]? = some o2 := by
  rw [Below.heap_alloc _ _ _ (by simp)]; exact heap_a2 w o1 o2

/-- a term of no parts, put into the result's block -/
theorem mk_atom {w W : World} {mb N c b : Nat} {S : List Str} (hg : Grew w W) (hM : Mk w mb N) (_hb0 : w.heap.size ≤ b) {k : Int} {t : Str} (hgd : Good S (.mk k t [] [])) (hc : 1 ≤ c) (_hb1 : b < W.heap.size) :
    MkPost w mb N S c (.returned (.agg #[Kv k, St t, .slice none 0 0, .slice none 0 0])) W := by
  have := rd_atom W (fun k => k < w.heap.size) k t
  exact ⟨_, _, N, rfl, this, hgd, hc, hM.grew hg, Nat.le_refl _, by omega, Grew.any hg⟩

set_option maxHeartbeats 600000 in
theorem part_const {w : World} {mb : Nat} {va : Value} {l : List RT} (h : Parts w mb va l) {w' : World} (k n : Int) (N : Nat) (vs : Value) (S : List Str) (i : Nat) (hi : i ≤ 100) (hr : l[i]? = none) (hM : Mk w' mb N) (hS : Nm w' (fun b => b = mb) vs S) (hSl : S.length ≤ 900000) :
    Calls Try.prog 56 #[.pointer (some ⟨mb, 0, none⟩), .agg #[Kv k, Kv n, va], .int .i64 i, vs] w' (MkPost w' mb N S 1) := by
  obtain ⟨ad, cap, rfl, -, -, -⟩ := h
  have hi : l.length ≤ i := by simpa using hr
  clear hr
  have HA := hid (fun (W : World) (b : Nat) (hg : Grew w' W) (hb0 : w'.heap.size ≤ b) (hb1 : b < W.heap.size) (k : Int) (t : Str) (hgd : Good S (.mk k t [] [])) => mk_atom (c := 1) hg hM hb0 hgd (by omega) hb1)
  have HG := hid (fun o1 o2 => ((Fr.refl (fun _ => False) w').alloc o1).alloc o2)
  have HG3 := hid (fun o1 o2 o3 => (((Fr.refl (fun _ => False) w').alloc o1).alloc o2).alloc o3)
  have w3 : ∀ a w, Calls Try.prog 38 #[.int .i64 a, .int .i64 3] w fun e w' => ∃ k : Nat, k < 3 ∧ e = .returned (Kv k) ∧ w = w' := fun a w => wn 3 (by omega) (by omega) a w
  have w5 : ∀ a w, Calls Try.prog 38 #[.int .i64 a, .int .i64 5] w fun e w' => ∃ k : Nat, k < 5 ∧ e = .returned (Kv k) ∧ w = w' := fun a w => wn 5 (by omega) (by omega) a w
  have HK := hid (fun w o ho k hk => const_cells w o ho k hk)
  by_cases h0 : S = []
  · subst h0
    obtain ⟨sa, sc, rfl, -⟩ := hS.shape
    clear hS hM
    go_enter Try.func56, Try.ntmps56
    go_wp2_with (first | (go_at_call 38; refine (w5 _ _).mono ?_; rintro e w1 ⟨k5, hk5, rfl, rfl⟩; obtain ⟨t5, ht5, hc5⟩ := HK.out ((w'.alloc (.cells #[Kv k, Kv n, .slice ad l.length cap] 59)).alloc (.cells #[.int .i64 0, .string ⟨#[]⟩, .slice none 0 0, .slice none 0 0] 28)) (w'.heap.size + 1 + 1) (by simp) k5 hk5; have HT := hid ht5; clear ht5))
    refine bodyPost_ret (res28 Try.results56 _ _ (w'.heap.size + 1) rfl (heap_a3 _ _ _ _)) rfl ?_
    exact HA.out _ (w'.heap.size + 1) (HG3.out _ _ _) (by omega) (by simp) 1 t5 (.int _ _ HT.out)
  · obtain ⟨g, o, c, rfl, hc1, hc2, -, hgl, hcell⟩ := hS.at h0
    have hlp : 0 < S.length := by cases S <;> simp_all
    have wS := fun a w => wn S.length hlp (by omega) a w
    have HC := hid hcell
    replace hc2 : c ≤ 9223372036854775807 := hc2
    have HM := hid hM
    clear hS hM hcell h0
    go_enter Try.func56, Try.ntmps56
    go_wp2_with (first | (go_at_call 38; with_reducible refine (w3 _ _).mono ?_; rintro e w1 ⟨k3, hk3, rfl, rfl⟩) | (go_at_call 38; with_reducible refine (w5 _ _).mono ?_; rintro e w1 ⟨k5, hk5, rfl, rfl⟩; obtain ⟨t5, ht5, hc5⟩ := HK.out ((w'.alloc (.cells #[Kv k, Kv n, .slice ad l.length cap] 59)).alloc (.cells #[.int .i64 0, .string ⟨#[]⟩, .slice none 0 0, .slice none 0 0] 28)) (w'.heap.size + 1 + 1) (by simp) k5 hk5; have HT := hid ht5; clear ht5) | (go_at_call 38; with_reducible refine (wS _ _).mono ?_; rintro e w1 ⟨ks, hks, rfl, rfl⟩; obtain ⟨s, hs, hcs⟩ := HC.out ks hks; have HT := hid hs; clear hs) | (go_at_call 28; refine (var_any _ _).mono ?_; rintro e w2 ⟨rfl, hgv⟩; have hb1 := hgv.get (heap_a2 _ _ _) (fun f => f); have f0 := frozen_of_get hb1 0; have f1 := frozen_of_get hb1 1; have f2 := frozen_of_get hb1 2; have f3 := frozen_of_get hb1 3; have d0 := cell_of_get hb1 0; have d1 := cell_of_get hb1 1; have d2 := cell_of_get hb1 2; have d3 := cell_of_get hb1 3; have HGV := hid hgv; clear hgv))
    · refine bodyPost_ret (res28 Try.results56 _ _ (w'.heap.size + 1) rfl (set4_heap hb1 _ _ _ _)) rfl ?_
      obtain ⟨vn, va, e, hn, hr⟩ := rd_atom w2 (fun bb => bb < ((w'.alloc (.cells #[Kv k, Kv n, .slice ad l.length cap] 59)).alloc (.cells #[.int .i64 0, .string ⟨#[]⟩, .slice none 0 0, .slice none 0 0] 28)).heap.size) 5 s
      cases e
      exact mk_done (x := .mk 5 s [] []) (HG.out _ _) (by omega) (by simp) (lt_of_get HM.out) (Grew.any HGV.out) hn hr (.var _ _ HT.out) (Nat.le_refl _) ((HM.out.grew (HG.out _ _)).grew HGV.out) (Nat.le_refl _) (by omega) _ _ _ _
    · refine bodyPost_ret (res28 Try.results56 _ _ (w'.heap.size + 1) rfl (heap_a3 _ _ _ _)) rfl ?_
      exact HA.out _ (w'.heap.size + 1) (HG3.out _ _ _) (by omega) (by simp) 1 t5 (.int _ _ HT.out)
end Go.Proofs.Ytddcfnjmppijjaa
