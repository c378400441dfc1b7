import Derived.Test.YtddcfnjmppijjaaN6
import Derived.Test.YtddcfnjmppijjaaM23
/-! thunkref5.Copy: a term by itself. -/
namespace Go.Proofs.Ytddcfnjmppijjaa
open Go.RowKit

/-- a term's copy, in the world w -/
def CX (wr : World) (x : X) (vn vp : Value) (w : World) : Prop := Grew wr w ∧ Nm w (fun k => k < wr.heap.size) vn x.names ∧ Row w (fun k => k < wr.heap.size) vp x.parts

/-- a copy's block while its parts are copied -/
structure SC (W : World) (b : Nat) (kd : Int) (t : Str) (vN vA : Value) (xs : List X) (wr : World) : Prop where
  keep : Fr (fun k => k = b) W wr
  box : wr.heap[b]? = some (.cells #[Kv kd, St t, vN, vA] 28 (0, 0))
  ox : OX W.heap.size wr vA xs

def C6 (wr : World) (x : X) (v : Value) (w : World) : Prop := ∃ (an : Option Addr) (cn : Nat) (ax : Option Addr) (cx : Nat), v = .agg #[Kv x.kind, St x.text, .slice an x.names.length cn, .slice ax x.parts.length cx] ∧ CX wr x (.slice an x.names.length cn) (.slice ax x.parts.length cx) w
def C7 (wr : World) (x : X) (v : Value) (w : World) : Prop := ∃ (vn vp : Value) (w5 : World), v = .slice (some ⟨w5.heap.size, 0, none⟩) 1 1 ∧ w = w5.alloc (.cells #[Kv x.kind, St x.text, vn, vp] 28) ∧ CX wr x vn vp w5
def C8 (W : World) (b : Nat) (kd : Int) (t : Str) (vN vA : Value) (xs : List X) (v : Value) (w : World) : Prop :=
  (∃ a m c, v = .slice a m c) ∧ w.cell? ⟨b, 3, none⟩ = some vA ∧ w.frozen? ⟨b, 3, none⟩ = false ∧ SC W b kd t vN v xs (w.setCell ⟨b, 3, none⟩ v)

/-- what a copying leaves -/
def CpPost (w : World) (x : X) (e : Ending) (w' : World) : Prop := ∃ e', e = .returned e' ∧ Rd w' (fun b => b < w.heap.size) e' x ∧ Grew w w' ∧
  ∃ vN vA B1, e' = .agg #[Kv x.kind, St x.text, vN, vA] ∧ w.heap.size ≤ B1 ∧ Rt w.heap.size w' vN x.names ∧ (∀ g, vN.ownBlock = some g → g < B1) ∧ OX B1 w' vA x.parts ∧ B1 ≤ w'.heap.size

theorem C6.of {wr w w3 : World} {x : X} {e : Ending} (h0 : Grew wr w) (h : CpPost w x e w3) : ∃ v, e = .returned v ∧ C6 wr x v w3 ∧ Grew w w3 := by
  obtain ⟨e', rfl, ⟨vx, vp, rfl, hnm, hrow⟩, hfr, -⟩ := h
  obtain ⟨an, cn, rfl, -⟩ := hnm.shape
  obtain ⟨ax, cx, rfl, -⟩ := hrow.shape
  have hs := h0.size
  exact ⟨_, rfl, ⟨an, cn, ax, cx, rfl, h0.trans hfr (fun _ _ e => e), hnm.mono (fun b _ e => by omega), hrow.mono (fun b _ e => by omega)⟩, hfr⟩

theorem C8.of {W : World} {b : Nat} {kd : Int} {t : Str} {vN vA : Value} {xs : List X} {x : X} {wr : World} (h : SC W b kd t vN vA xs wr) (hb : b < W.heap.size) (hl : xs.length ≤ 999) {u : Value} {w : World} (h7 : C7 wr x u w) (ty : TypeId) :
    ∃ v1 w6, (Builtin.append_ #[26, 26] ty #[vA, u]).run Try.prog w = .ok v1 w6 ∧ C8 W b kd t vN vA (xs ++ [x]) v1 w6 ∧ Fr (fun k => vA.ownBlock = some k) w w6 := by
  obtain ⟨vn, vp, w5, rfl, rfl, hf, hn, hr⟩ := h7
  obtain ⟨keep, box, ox⟩ := h
  have hs1 := keep.size
  have hs2 := hf.size
  have hg5 : Grew w5 (w5.alloc (.cells #[Kv x.kind, St x.text, vn, vp] 28)) := (Fr.refl _ _).alloc _
  have hox := (ox.kept hf (fun k e => e.elim)).kept hg5 (fun _ e => e.elim)
  have hDv : ∀ k, Dv W.heap.size vA k → k < wr.heap.size := fun k e => by
    rcases e with e | e
    · omega
    · exact (ox.lt e).2
  obtain ⟨v1, w6, hrun, hox6, hf6⟩ := hox.app (by simp; omega) (by omega) (heap_alloc_new w5 (.cells #[Kv x.kind, St x.text, vn, vp] 28)) ((hn.mono (fun b _ e => hDv b e)).grew hg5) ((hr.mono (fun b _ e => hDv b e)).grew hg5) ty
  have hf56 := (Grew.any (F := fun k => vA.ownBlock = some k) hg5).trans hf6 (fun _ _ e => e)
  have hown : ∀ k, k < W.heap.size → ¬ vA.ownBlock = some k := fun k hk e => by have := (ox.lt e).1; omega
  have box6 := hf56.get (hf.get box (fun e => e)) (hown _ hb)
  have hset : Fr (fun k => k = b) w6 (w6.setCell ⟨b, 3, none⟩ v1) := (Fr.refl (fun k => k = b) w6).setCell (p := ⟨b, 3, none⟩) (fun _ => rfl) v1
  obtain ⟨aa, ca, e, -⟩ := hox6.shape
  refine ⟨v1, w6, hrun, ⟨⟨aa, _, ca, e⟩, cell_of_get box6 3, frozen_of_get box6 3, ⟨?_, ?_, hox6.kept hset (fun k e => by omega)⟩⟩, hf6⟩
  · exact ((keep.trans hf (fun _ _ e => e.elim)).trans hf56 (fun k hk e => absurd e (hown k (by omega)))).trans hset (fun k hk e => e)
  · simp [World.setCell, Array.getElem?_modify, box6]

/-- a term of which nothing is greater than n -/
inductive Smn (n : Nat) : X → Prop
  | mk (k : Int) (t : Str) (ns : List Str) (a : List X) (ht : t.length ≤ n) (hn : ns.length ≤ n) (ha : a.length ≤ n) (h : ∀ x ∈ a, Smn n x) : Smn n (.mk k t ns a)
theorem Smn.up {n m : Nat} {x : X} (h : Smn n x) (hm : n ≤ m) : Smn m x := by
  induction h with
  | mk k t ns a ht hn ha _ ih => exact .mk k t ns a (by omega) (by omega) (by omega) ih
theorem Smn.sm {n : Nat} {x : X} (h : Smn n x) (hm : n ≤ 1000000) : Sm x := by
  induction h with
  | mk k t ns a ht hn ha _ ih => exact .mk k t ns a (by omega) (by omega) (by omega) ih

/-- Copy copies a term of these parts -/
def CopyAt (w : World) (D : Nat → Prop) (v : Value) (l : List X) : Prop :=
  (∀ x ∈ l, Smn 900 x) → l.length ≤ 900 → ∀ w', Grew w w' → ∀ (k : Int) (t : Str) (vn : Value) (ns : List Str), Nm w D vn ns → ns.length ≤ 900 →
    Calls Try.prog 57 #[.agg #[Kv k, St t, vn, v]] w' (CpPost w' (.mk k t ns l))

theorem copy_step {w : World} {D : Nat → Prop} {g p : Nat} {x : X} {an : Option Addr} {cn : Nat} {aa : Option Addr} {ca : Nat} (he : El w D g p x an cn aa ca) (h : CopyAt w D (.slice aa x.parts.length ca) x.parts) (hx : Smn 900 x) (w' : World) (hg : Grew w w') :
    Calls Try.prog 57 #[.agg #[Kv x.kind, St x.text, .slice an x.names.length cn, .slice aa x.parts.length ca]] w' (CpPost w' x) := by
  cases hx with
  | mk k t ns a ht hn ha hs => exact h hs ha w' hg k t _ ns he.nm hn

/-- append([]string{}, names...) -/
theorem names_copied {w : World} {D : Nat → Prop} {vn : Value} {ns : List Str} (h : Nm w D vn ns) (hl : ns.length ≤ 900) (w0 : World) (hg : Grew w w0) (ty : TypeId) :
    ∃ v1 w6, (Builtin.append_ #[25, 25] ty #[.slice (some ⟨w0.heap.size, 0, none⟩) 0 0, vn]).run Try.prog (w0.alloc (.cells #[] 9)) = .ok v1 w6 ∧ (∃ a m c, v1 = .slice a m c) ∧ Rt w0.heap.size w6 v1 ns ∧ Fr (fun k => (Value.slice (some ⟨w0.heap.size, 0, none⟩) 0 0).ownBlock = some k) (w0.alloc (.cells #[] 9)) w6 := by
  have h0 : Rt w0.heap.size (w0.alloc (.cells #[] 9)) (.slice (some ⟨w0.heap.size, 0, none⟩) 0 0) [] :=
    ⟨by simp, .inr ⟨w0.heap.size, 0, #[], rfl, Nat.le_refl _, heap_alloc_new _ _, Nat.le_refl _, by simp [maxLen], rfl, rfl⟩⟩
  obtain ⟨v8, wa, hr, hrt, hf, ho⟩ := app_rt h0 (by simp) ((h.grew hg).grew ((Fr.refl _ _).alloc _)) (by simp; omega) ty
  obtain ⟨a, c, e, -⟩ := hrt.shape
  exact ⟨v8, wa, hr, ⟨a, _, c, e⟩, by simpa using hrt, hf⟩

/-- while a copy's head is built: its names, its block -/
structure QC (B : Nat) (k : Int) (t : Str) (ns : List Str) (listed : Array Bool) (a : Act) (w : World) : Prop where
  sz : a.tmps.size = 33
  le : B ≤ w.heap.size
  i4 : listed.getD 4 false = true → listed.getD 7 false = false → ∃ g, a.tmps.getD 9 undef = .slice (some ⟨g, 0, none⟩) 0 0 ∧ B ≤ g ∧ w.heap[g]? = some (.cells #[] 9 (0, 0)) ∧ (listed.getD 9 false = true → a.tmps.getD 3 undef ≠ .pointer (some ⟨g, 0, none⟩))
  i7 : listed.getD 7 false = true → Rt B w (a.tmps.getD 12 undef) ns ∧ (listed.getD 9 false = true → ∀ g, (a.tmps.getD 12 undef).ownBlock = some g → a.tmps.getD 3 undef ≠ .pointer (some ⟨g, 0, none⟩))
  i8 : listed.getD 8 false = true → a.tmps.getD 13 undef = .agg #[Kv k, St t, a.tmps.getD 12 undef, .slice none 0 0]
  i9 : listed.getD 9 false = true → ∃ g, a.tmps.getD 3 undef = .pointer (some ⟨g, 0, none⟩) ∧ B ≤ g ∧ w.heap[g]? = some newB

section
variable {B : Nat} {k : Int} {t : Str} {ns : List Str} {listed : Array Bool} {a : Act} {w : World}
theorem QC.pure (h : QC B k t ns listed a w) {i d : Nat} (v : Value) (h1 : i ≠ 4 ∧ i ≠ 7 ∧ i ≠ 8 ∧ i ≠ 9) (h2 : d ≠ 9 ∧ d ≠ 12 ∧ d ≠ 13 ∧ d ≠ 3) : QC B k t ns (listed.setIfInBounds i true) (a.put (some d) v) w := by
  obtain ⟨e1, e2, e3, e4⟩ := h1
  obtain ⟨d1, d2, d3, d4⟩ := h2
  refine ⟨by rw [put_size']; exact h.sz, h.le, ?_, ?_, ?_, ?_⟩
  · rw [getD_ne e1, getD_ne e2, getD_ne e4, Rg.put_getD_ne v d1, Rg.put_getD_ne v d4]; exact h.i4
  · rw [getD_ne e2, getD_ne e4, Rg.put_getD_ne v d2, Rg.put_getD_ne v d4]; exact h.i7
  · rw [getD_ne e3, Rg.put_getD_ne v d3, Rg.put_getD_ne v d2]; exact h.i8
  · rw [getD_ne e4, Rg.put_getD_ne v d4]; exact h.i9
theorem QC.empty (h : QC B k t ns listed a w) (_hl : 4 < listed.size) (h7 : listed.getD 7 false = false) (h8 : listed.getD 8 false = false) :
    QC B k t ns (listed.setIfInBounds 4 true) (a.put (some 9) (.slice (some ⟨w.heap.size, 0, none⟩) 0 0)) (w.alloc (.cells #[] 9)) := by
  have hg : Grew w (w.alloc (.cells #[] 9)) := (Fr.refl _ _).alloc _
  refine ⟨by rw [put_size']; exact h.sz, Nat.le_trans h.le hg.size, ?_, ?_, ?_, ?_⟩
  · intro _ _
    rw [Rg.put_getD_eq _ (by rw [h.sz]; decide), Rg.put_getD_ne _ (by decide), getD_ne (by decide)]
    refine ⟨_, rfl, h.le, heap_alloc_new _ _, fun h9 e => ?_⟩
    obtain ⟨g, e1, -, e3⟩ := h.i9 h9
    rw [e1] at e
    have := lt_of_get e3
    simp at e <;> omega
  · rw [getD_ne (by decide), h7]; intro q; cases q
  · rw [getD_ne (by decide), h8]; intro q; cases q
  · rw [getD_ne (by decide), Rg.put_getD_ne _ (by decide)]
    intro h9
    obtain ⟨g, e1, e2, e3⟩ := h.i9 h9
    exact ⟨g, e1, e2, hg.get e3 (fun f => f)⟩
theorem QC.block (h : QC B k t ns listed a w) (_hl : 9 < listed.size) :
    QC B k t ns (listed.setIfInBounds 9 true) (a.put (some 3) (.pointer (some ⟨w.heap.size, 0, none⟩))) (w.alloc newB) := by
  have hg : Grew w (w.alloc newB) := (Fr.refl _ _).alloc _
  refine ⟨by rw [put_size']; exact h.sz, Nat.le_trans h.le hg.size, ?_, ?_, ?_, ?_⟩
  · rw [getD_ne (by decide), getD_ne (by decide), Rg.put_getD_ne _ (by decide), Rg.put_getD_eq _ (by rw [h.sz]; decide)]
    intro h4 h7
    obtain ⟨g, e1, e2, e3, -⟩ := h.i4 h4 h7
    exact ⟨g, e1, e2, hg.get e3 (fun f => f), fun _ e => by have := lt_of_get e3; simp at e <;> omega⟩
  · rw [getD_ne (by decide), Rg.put_getD_ne _ (by decide), Rg.put_getD_eq _ (by rw [h.sz]; decide)]
    intro h7
    obtain ⟨e1, -⟩ := h.i7 h7
    exact ⟨rt_kept e1 hg (fun _ _ f => f), fun _ g hg e => by have := (e1.lt g hg).2; simp at e <;> omega⟩
  · rw [getD_ne (by decide), Rg.put_getD_ne _ (by decide), Rg.put_getD_ne _ (by decide)]; exact h.i8
  · intro _
    rw [Rg.put_getD_eq _ (by rw [h.sz]; decide)]
    exact ⟨_, rfl, h.le, heap_alloc_new _ _⟩
theorem QC.app (h : QC B k t ns listed a w) (hl : 7 < listed.size) (h4 : listed.getD 4 false = true) (h7 : listed.getD 7 false = false) (h8 : listed.getD 8 false = false) {D : Nat → Prop} {vn : Value} (hn : Nm w D vn ns) (hnl : ns.length ≤ 900) (ty : TypeId) :
    ∃ g v1 w6, a.tmps.getD 9 undef = .slice (some ⟨g, 0, none⟩) 0 0 ∧ (Builtin.append_ #[25, 25] ty #[.slice (some ⟨g, 0, none⟩) 0 0, vn]).run Try.prog w = .ok v1 w6 ∧ (∃ a m c, v1 = .slice a m c) ∧ Fr (fun k => B ≤ k) w w6 ∧
      QC B k t ns (listed.setIfInBounds 7 true) (a.put (some 12) v1) w6 := by
  obtain ⟨g, e1, e2, e3, e4⟩ := h.i4 h4 h7
  have h0 : Rt B w (.slice (some ⟨g, 0, none⟩) 0 0) [] := ⟨by simp, .inr ⟨g, 0, #[], rfl, e2, e3, Nat.le_refl _, by simp [maxLen], rfl, rfl⟩⟩
  obtain ⟨v8, wa, hr, hrt, hf, ho⟩ := app_rt h0 h.le hn (by simp; omega) ty
  obtain ⟨a', c', e, -⟩ := hrt.shape
  have hf' : Fr (fun k => k = g) w wa := hf.mono (fun k _ e => by simp [Value.ownBlock] at e; exact e.symm)
  refine ⟨g, v8, wa, e1, hr, ⟨a', _, c', e⟩, hf'.mono (fun k _ e => by omega), by rw [put_size']; exact h.sz, Nat.le_trans h.le hf.size, ?_, ?_, ?_, ?_⟩
  · intro _; rw [getD_at hl]; intro q; cases q
  · intro _
    rw [Rg.put_getD_eq _ (by rw [h.sz]; decide), Rg.put_getD_ne _ (by decide), getD_ne (by decide)]
    refine ⟨by simpa using hrt, fun h9 g2 hg2 e => ?_⟩
    obtain ⟨g3, q1, -, q3⟩ := h.i9 h9
    rcases ho g2 hg2 with q | q
    · simp [Value.ownBlock] at q
      subst q
      exact e4 h9 e
    · rw [q1] at e
      have := lt_of_get q3
      simp at e <;> omega
  · rw [getD_ne (by decide), h8]; intro q; cases q
  · rw [getD_ne (by decide), Rg.put_getD_ne _ (by decide)]
    intro h9
    obtain ⟨g3, q1, q2, q3⟩ := h.i9 h9
    exact ⟨g3, q1, q2, hf'.get q3 (fun e => e4 h9 (by rw [q1, e]))⟩
theorem QC.build (h : QC B k t ns listed a w) (_hl : 8 < listed.size) : QC B k t ns (listed.setIfInBounds 8 true) (a.put (some 13) (.agg #[Kv k, St t, a.tmps.getD 12 undef, .slice none 0 0])) w := by
  refine ⟨by rw [put_size']; exact h.sz, h.le, ?_, ?_, ?_, ?_⟩
  · rw [getD_ne (by decide), getD_ne (by decide), getD_ne (by decide), Rg.put_getD_ne _ (by decide), Rg.put_getD_ne _ (by decide)]; exact h.i4
  · rw [getD_ne (by decide), getD_ne (by decide), Rg.put_getD_ne _ (by decide), Rg.put_getD_ne _ (by decide)]; exact h.i7
  · intro _
    rw [Rg.put_getD_eq _ (by rw [h.sz]; decide), Rg.put_getD_ne _ (by decide)]
  · rw [getD_ne (by decide), Rg.put_getD_ne _ (by decide)]; exact h.i9
end

end Go.Proofs.Ytddcfnjmppijjaa
