import Derived.Test.YtddcfnjmppijjaaM8
import Derived.Test.YtddcfnjmppijjaaR5
/-! The loops of parts. -/
namespace Go.Proofs.Ytddcfnjmppijjaa
open Go.RowKit

theorem pns_succ (l : List RT) (j : Nat) : pns l (j + 1) = pns l j + pn l j := rfl
theorem sizes_append (a b : List X) : sizes (a ++ b) = sizes a + sizes b := by
  induction a with
  | nil => simp [sizes]
  | cons x r ih => simp only [List.cons_append, sizes, ih]; omega

/-- a term's block while its parts are made. w': the world when Make began; b: the block; B: what is made here lies from there on -/
structure AS (w' : World) (mb N0 b B : Nat) (Wo : World) (kd : Int) (t : Str) (vN : Value) (k n : Int) (va : Value) (S' : List Str) (l : List RT) (j : Nat) (vA : Value) (xs : List X) (wr : World) : Prop where
  fr : Fr (fun k => k = mb) w' wr
  cnt : ∃ N1, Mk wr mb N1 ∧ N0 ≤ N1 ∧ N1 ≤ N0 + pns l j
  raw : wr.heap[w'.heap.size]? = some (rawB k n va)
  res : wr.heap[w'.heap.size + 1]? = some newB
  box : wr.heap[b]? = some (.cells #[Kv kd, St t, vN, vA] 28 (0, 0))
  ox : OX B wr vA xs
  len : xs.length = j
  good : ∀ x ∈ xs, Good S' x
  size : sizes xs ≤ pns l j
  base : B ≤ wr.heap.size
  old : Fr (fun k => k = mb ∨ k = b) Wo wr
  oldB : Wo.heap.size = B

theorem AS.step {w' Wo : World} {mb N0 b B : Nat} {kd : Int} {t : Str} {vN : Value} {k n : Int} {va : Value} {S' : List Str} {l : List RT} {j : Nat} {vA : Value} {xs : List X} {wr : World}
    (h : AS w' mb N0 b B Wo kd t vN k n va S' l j vA xs wr) (hmb : mb < w'.heap.size) (hb0 : w'.heap.size + 1 < b) (hb1 : b < B) {w5 : World} (hf : Fr (fun k => k = mb) wr w5) {x : X} {vn vp : Value}
    (hn : Nm w5 (fun k => k < wr.heap.size) vn x.names) (hr : Row w5 (fun k => k < wr.heap.size) vp x.parts) (hgd : Good S' x) (hsz : x.size ≤ pn l j) (hm : ∃ N2, Mk w5 mb N2 ∧ N0 ≤ N2 ∧ N2 ≤ N0 + pns l j + pn l j) (hj : j ≤ 100) (ty : TypeId) :
    ∃ v1 w6, (Builtin.append_ #[26, 26] ty #[vA, .slice (some ⟨w5.heap.size, 0, none⟩) 1 1]).run Try.prog (w5.alloc (.cells #[Kv x.kind, St x.text, vn, vp] 28)) = .ok v1 w6 ∧ (∃ a m c, v1 = .slice a m c) ∧
      w6.cell? ⟨b, 3, none⟩ = some vA ∧ w6.frozen? ⟨b, 3, none⟩ = false ∧ AS w' mb N0 b B Wo kd t vN k n va S' l (j + 1) v1 (xs ++ [x]) (w6.setCell ⟨b, 3, none⟩ v1) := by
  obtain ⟨fr, cnt, raw, res, box, ox, len, good, size, base, old, oldB⟩ := h
  have hs1 := fr.size
  have hs2 := hf.size
  have hg5 : Grew w5 (w5.alloc (.cells #[Kv x.kind, St x.text, vn, vp] 28)) := (Fr.refl _ _).alloc _
  have hox := (ox.kept hf (fun k e => by omega)).kept hg5 (fun _ e => e.elim)
  have hD : ∀ k, k < wr.heap.size → True := fun _ _ => trivial
  have hDv : ∀ k, Dv B vA k → k < wr.heap.size := fun k e => by
    rcases e with e | e
    · omega
    · exact (ox.lt e).2
  obtain ⟨v1, w6, hrun, hox6, hf6⟩ := hox.app (by simp; omega) (by omega) (heap_alloc_new w5 (.cells #[Kv x.kind, St x.text, vn, vp] 28)) ((hn.mono (fun b _ e => hDv b e)).grew hg5) ((hr.mono (fun b _ e => hDv b e)).grew hg5) ty
  have hf56 := (Grew.any (F := fun k => vA.ownBlock = some k) hg5).trans hf6 (fun _ _ e => e)
  have hown : ∀ k, k < B → ¬ vA.ownBlock = some k := fun k hk e => by have := (ox.lt e).1; omega
  have hsep : ∀ {k o}, w5.heap[k]? = some o → k < B → w6.heap[k]? = some o := fun hk hb => hf56.get hk (hown _ hb)
  have box5 := hf.get box (by omega)
  have box6 := hsep box5 hb1
  have hset : Fr (fun k => k = b) w6 (w6.setCell ⟨b, 3, none⟩ v1) := (Fr.refl (fun k => k = b) w6).setCell (p := ⟨b, 3, none⟩) (fun _ => rfl) v1
  obtain ⟨a, c, e, -⟩ := hox6.shape
  obtain ⟨N2, hm2, hN1, hN2⟩ := hm
  refine ⟨v1, w6, hrun, ⟨a, _, c, e⟩, cell_of_get box6 3, frozen_of_get box6 3, ⟨?_, ⟨N2, ?_, hN1, by rw [pns_succ]; omega⟩, ?_, ?_, ?_, hox6.kept hset (fun k e => by omega), by simp [len], ?_, ?_, ?_, ?_, oldB⟩⟩
  · exact ((fr.trans hf (fun _ _ e => e)).trans hf56 (fun k hk e => absurd e (hown k (by omega)))).trans hset (fun k hk e => by omega)
  · exact hset.get (hsep hm2 (by omega)) (by omega)
  · exact hset.get (hsep (hf.get raw (by omega)) (by omega)) (by omega)
  · exact hset.get (hsep (hf.get res (by omega)) (by omega)) (by omega)
  · simp [World.setCell, Array.getElem?_modify, box6]
  · intro y hy
    rcases List.mem_append.1 hy with hy | hy
    · exact good y hy
    · rw [List.mem_singleton.1 hy]; exact hgd
  · rw [sizes_append, pns_succ]; simp only [sizes]; omega
  · have := hf56.size; have := hset.size; omega
  · exact ((old.trans hf (fun _ _ e => .inl e)).trans hf56 (fun k hk e => absurd e (hown k (by omega)))).trans hset (fun k hk e => .inr e)

theorem Yields_app {P : Program} {o : Oper} {a : Act} {w : World} {G : Value → World → Prop} {s x : Operand} {T T' : TypeId}
    (ho : o.op = .call { callee := .builtin .append, args := #[s, x], argTypes := #[T, T'] }) {v u v' : Value} {w' : World} (hs : a.eval s = v) (hx : a.eval x = u)
    (hr : (Builtin.append_ #[T, T'] o.type #[v, u]).run P w = .ok v' w') (h : G v' w') : Rg.Yields P o a w G := by
  unfold Rg.Yields
  simp [execOp, ho, resolve, invoke, builtin, hs, hx, hr, Result.andThen]
  exact h

theorem put_size' (a : Act) (d : Option Tmp) (v : Value) : (a.put d v).tmps.size = a.tmps.size := by cases d <;> simp [Act.put]
theorem getD_at {listed : Array Bool} {i : Nat} (h : i < listed.size) : (listed.setIfInBounds i true).getD i false = true := by simp [h]
theorem getD_ne {listed : Array Bool} {i p : Nat} (h : i ≠ p) : (listed.setIfInBounds i true).getD p false = listed.getD p false := by simp [Array.getElem?_setIfInBounds_ne h]
def FAny (_ : Value) (_ : World) : Prop := True

/-- A thing that is made, laid, put behind a row: three operations, one behind the other, among others that only read. -/
structure Qs (Q0 : World → Prop) (Q6 Q7 Q8 : Value → World → Prop) (sz p6 p7 p8 s6 s7 s8 : Nat) (listed : Array Bool) (a : Act) (w : World) : Prop where
  sz : a.tmps.size = sz
  i0 : listed.getD p6 false = false → Q0 w
  i6 : listed.getD p6 false = true → listed.getD p7 false = false → Q6 (a.tmps.getD s6 undef) w
  i7 : listed.getD p7 false = true → listed.getD p8 false = false → Q7 (a.tmps.getD s7 undef) w
  i8 : listed.getD p8 false = true → Q8 (a.tmps.getD s8 undef) w

section
variable {Q0 : World → Prop} {Q6 Q7 Q8 : Value → World → Prop} {sz p6 p7 p8 s6 s7 s8 : Nat} {listed : Array Bool} {a : Act} {w : World}
theorem Qs.pure (h : Qs Q0 Q6 Q7 Q8 sz p6 p7 p8 s6 s7 s8 listed a w) {i d : Nat} (v : Value) (h1 : i ≠ p6 ∧ i ≠ p7 ∧ i ≠ p8) (h2 : d ≠ s6 ∧ d ≠ s7 ∧ d ≠ s8) : Qs Q0 Q6 Q7 Q8 sz p6 p7 p8 s6 s7 s8 (listed.setIfInBounds i true) (a.put (some d) v) w := by
  obtain ⟨e1, e2, e3⟩ := h1
  obtain ⟨d1, d2, d3⟩ := h2
  refine ⟨by rw [put_size']; exact h.sz, ?_, ?_, ?_, ?_⟩
  · rw [getD_ne e1]; exact h.i0
  · rw [getD_ne e1, getD_ne e2, Rg.put_getD_ne v d1]; exact h.i6
  · rw [getD_ne e2, getD_ne e3, Rg.put_getD_ne v d2]; exact h.i7
  · rw [getD_ne e3, Rg.put_getD_ne v d3]; exact h.i8
theorem Qs.call (h : Qs Q0 Q6 Q7 Q8 sz p6 p7 p8 s6 s7 s8 listed a w) {v : Value} {w2 : World} (hq : Q6 v w2) (hl : p6 < listed.size) (hs : s6 < sz) (h7 : listed.getD p7 false = false) (h8 : listed.getD p8 false = false) (e : p6 ≠ p7 ∧ p6 ≠ p8) :
    Qs Q0 Q6 Q7 Q8 sz p6 p7 p8 s6 s7 s8 (listed.setIfInBounds p6 true) (a.put (some s6) v) w2 := by
  refine ⟨by rw [put_size']; exact h.sz, ?_, ?_, ?_, ?_⟩
  · rw [getD_at hl]; intro q; cases q
  · intro _ _; rw [Rg.put_getD_eq v (by rw [h.sz]; exact hs)]; exact hq
  · rw [getD_ne e.1, h7]; intro q; cases q
  · rw [getD_ne e.2, h8]; intro q; cases q
theorem Qs.build (h : Qs Q0 Q6 Q7 Q8 sz p6 p7 p8 s6 s7 s8 listed a w) {v : Value} {w2 : World} (hq : Q7 v w2) (hl : p7 < listed.size) (hs : s7 < sz) (h6 : listed.getD p6 false = true) (h8 : listed.getD p8 false = false) (e : p7 ≠ p6 ∧ p7 ≠ p8) :
    Qs Q0 Q6 Q7 Q8 sz p6 p7 p8 s6 s7 s8 (listed.setIfInBounds p7 true) (a.put (some s7) v) w2 := by
  refine ⟨by rw [put_size']; exact h.sz, ?_, ?_, ?_, ?_⟩
  · rw [getD_ne e.1, h6]; intro q; cases q
  · intro _; rw [getD_at hl]; intro q; cases q
  · intro _ _; rw [Rg.put_getD_eq v (by rw [h.sz]; exact hs)]; exact hq
  · rw [getD_ne e.2, h8]; intro q; cases q
theorem Qs.app (h : Qs Q0 Q6 Q7 Q8 sz p6 p7 p8 s6 s7 s8 listed a w) {v : Value} {w2 : World} (hq : Q8 v w2) (hl : p8 < listed.size) (hs : s8 < sz) (h6 : listed.getD p6 false = true) (h7 : listed.getD p7 false = true) (e : p8 ≠ p6 ∧ p8 ≠ p7) :
    Qs Q0 Q6 Q7 Q8 sz p6 p7 p8 s6 s7 s8 (listed.setIfInBounds p8 true) (a.put (some s8) v) w2 := by
  refine ⟨by rw [put_size']; exact h.sz, ?_, ?_, ?_, ?_⟩
  · rw [getD_ne e.1, h6]; intro q; cases q
  · intro _; rw [getD_ne e.2, h7]; intro q; cases q
  · intro _; rw [getD_at hl]; intro q; cases q
  · intro _; rw [Rg.put_getD_eq v (by rw [h.sz]; exact hs)]; exact hq
end

/-- a part that is made, in the world w -/
structure PX (wr : World) (mb N1 c : Nat) (S' : List Str) (x : X) (vn vp : Value) (w : World) : Prop where
  fr : Fr (fun k => k = mb) wr w
  nm : Nm w (fun k => k < wr.heap.size) vn x.names
  row : Row w (fun k => k < wr.heap.size) vp x.parts
  good : Good S' x
  size : x.size ≤ c
  cnt : ∃ N2, Mk w mb N2 ∧ N1 ≤ N2 ∧ N2 ≤ N1 + c

def P0 (wr : World) (mb N1 : Nat) (w : World) : Prop := Fr (fun k => k = mb) wr w ∧ Mk w mb N1
def P6 (wr : World) (mb N1 c : Nat) (S' : List Str) (v : Value) (w : World) : Prop :=
  ∃ (x : X) (an : Option Addr) (cn : Nat) (ax : Option Addr) (cx : Nat), v = .agg #[Kv x.kind, St x.text, .slice an x.names.length cn, .slice ax x.parts.length cx] ∧ PX wr mb N1 c S' x (.slice an x.names.length cn) (.slice ax x.parts.length cx) w
def P7 (wr : World) (mb N1 c : Nat) (S' : List Str) (v : Value) (w : World) : Prop :=
  ∃ (x : X) (vn vp : Value) (w5 : World), v = .slice (some ⟨w5.heap.size, 0, none⟩) 1 1 ∧ w = w5.alloc (.cells #[Kv x.kind, St x.text, vn, vp] 28) ∧ PX wr mb N1 c S' x vn vp w5
def P8 (w' : World) (mb N0 b B : Nat) (Wo : World) (kd : Int) (t : Str) (vN : Value) (k n : Int) (va : Value) (S' : List Str) (l : List RT) (j : Nat) (vA : Value) (v : Value) (w : World) : Prop :=
  ∃ xs, (∃ a m c, v = .slice a m c) ∧ w.cell? ⟨b, 3, none⟩ = some vA ∧ w.frozen? ⟨b, 3, none⟩ = false ∧ AS w' mb N0 b B Wo kd t vN k n va S' l (j + 1) v xs (w.setCell ⟨b, 3, none⟩ v)

/-- behind a making: what the slot holds -/
theorem P6.of {wr w w3 : World} {mb N1 c : Nat} {S' : List Str} {e : Ending} (h0 : P0 wr mb N1 w) (h : MkPost w mb N1 S' c e w3) : ∃ v, e = .returned v ∧ P6 wr mb N1 c S' v w3 ∧ Fr (fun k => k = mb) w w3 := by
  obtain ⟨hf, hm⟩ := h0
  obtain ⟨e', x, N2, rfl, ⟨vx, vp, rfl, hnm, hrow⟩, hgd, hsz, hmk, hn1, hn2, hfr⟩ := h
  obtain ⟨an, cn, rfl, -⟩ := hnm.shape
  obtain ⟨ax, cx, rfl, -⟩ := hrow.shape
  have hs := hf.size
  exact ⟨_, rfl, ⟨x, an, cn, ax, cx, rfl, ⟨hf.trans hfr (fun _ _ e => e), hnm.mono (fun b _ e => by omega), hrow.mono (fun b _ e => by omega), hgd, hsz, N2, hmk, hn1, hn2⟩⟩, hfr⟩

/-- the append -/
theorem P8.of {w' Wo : World} {mb N0 N1 b B : Nat} {kd : Int} {t : Str} {vN : Value} {k n : Int} {va : Value} {S' : List Str} {l : List RT} {j : Nat} {vA : Value} {xs : List X} {wr : World}
    (h : AS w' mb N0 b B Wo kd t vN k n va S' l j vA xs wr) (hmb : mb < w'.heap.size) (hb0 : w'.heap.size + 1 < b) (hb1 : b < B) (hj : j ≤ 100) (hn1 : N0 ≤ N1) (hn2 : N1 ≤ N0 + pns l j) {u : Value} {w : World} (h7 : P7 wr mb N1 (pn l j) S' u w) (ty : TypeId) :
    ∃ v1 w6, (Builtin.append_ #[26, 26] ty #[vA, u]).run Try.prog w = .ok v1 w6 ∧ P8 w' mb N0 b B Wo kd t vN k n va S' l j vA v1 w6 ∧ Fr (fun k => k = mb ∨ vA.ownBlock = some k) w w6 := by
  obtain ⟨x, vn, vp, w5, rfl, rfl, hx⟩ := h7
  obtain ⟨N2, hm2, hN1, hN2⟩ := hx.cnt
  have hg5 : Grew w5 (w5.alloc (.cells #[Kv x.kind, St x.text, vn, vp] 28)) := (Fr.refl _ _).alloc _
  obtain ⟨v1, w6, hrun, hsh, hc, hf, has⟩ := h.step hmb hb0 hb1 hx.fr hx.nm hx.row hx.good hx.size ⟨N2, hm2, by omega, by omega⟩ hj ty
  refine ⟨v1, w6, hrun, ⟨_, hsh, hc, hf, has⟩, ?_⟩
  obtain ⟨an, cn, e1, -⟩ := hx.nm.shape
  obtain ⟨ax, cx, e2, -⟩ := hx.row.shape
  have hox := (h.ox.kept hx.fr (fun k e => by have := h.fr.size; omega)).kept hg5 (fun _ e => e.elim)
  have hDv : ∀ k, Dv B vA k → k < wr.heap.size := fun k e => by
    have := h.base
    rcases e with e | e
    · omega
    · exact (h.ox.lt e).2
  have hl := h.len
  have hb := h.base
  have hs2 := hx.fr.size
  obtain ⟨v2, w7, hrun2, -, hf7⟩ := hox.app (by simp; omega) (by omega) (heap_alloc_new w5 (.cells #[Kv x.kind, St x.text, vn, vp] 28)) ((hx.nm.mono (fun b _ e => hDv b e)).grew hg5) ((hx.row.mono (fun b _ e => hDv b e)).grew hg5) ty
  rw [hrun2] at hrun
  cases hrun
  exact hf7.mono (fun _ _ e => .inr e)
end Go.Proofs.Ytddcfnjmppijjaa
