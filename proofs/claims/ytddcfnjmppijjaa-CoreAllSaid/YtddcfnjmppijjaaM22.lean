import Derived.Test.YtddcfnjmppijjaaM21
/-! Term's loops. -/
namespace Go.Proofs.Ytddcfnjmppijjaa
open Go.RowKit

/-- as AS, in Term -/
structure AT (w' : World) (mb N0 b B : Nat) (Wo : World) (kd : Int) (t : Str) (vN : Value) (S' : List Str) (j M : Nat) (vA : Value) (xs : List X) (wr : World) : Prop where
  fr : Fr (fun k => k = mb) w' wr
  cnt : ∃ N1, Mk wr mb N1 ∧ N0 ≤ N1 ∧ N1 ≤ N0 + M
  box : wr.heap[b]? = some (.cells #[Kv kd, St t, vN, vA] 28 (0, 0))
  ox : OX B wr vA xs
  len : xs.length = j
  good : ∀ x ∈ xs, Good S' x
  size : sizes xs ≤ M
  base : B ≤ wr.heap.size
  old : Fr (fun k => k = mb ∨ k = b) Wo wr
  oldB : Wo.heap.size = B

theorem AT.step {w' Wo : World} {mb N0 b B : Nat} {kd : Int} {t : Str} {vN : Value} {S' : List Str} {j M c : Nat} {vA : Value} {xs : List X} {wr : World}
    (h : AT w' mb N0 b B Wo kd t vN S' j M vA xs wr) (hmb : mb < w'.heap.size) (hb0 : w'.heap.size ≤ b) (hb1 : b < B) {w5 : World} (hf : Fr (fun k => k = mb) wr w5) {x : X} {vn vp : Value}
    (hn : Nm w5 (fun k => k < wr.heap.size) vn x.names) (hr : Row w5 (fun k => k < wr.heap.size) vp x.parts) (hgd : Good S' x) (hsz : x.size ≤ c) (hm : ∃ N2, Mk w5 mb N2 ∧ N0 ≤ N2 ∧ N2 ≤ N0 + M + c) (hj : j ≤ 100) (ty : TypeId) :
    ∃ v1 w6, (Builtin.append_ #[26, 26] ty #[vA, .slice (some ⟨w5.heap.size, 0, none⟩) 1 1]).run Try.prog (w5.alloc (.cells #[Kv x.kind, St x.text, vn, vp] 28)) = .ok v1 w6 ∧ (∃ a m c, v1 = .slice a m c) ∧
      w6.cell? ⟨b, 3, none⟩ = some vA ∧ w6.frozen? ⟨b, 3, none⟩ = false ∧ AT w' mb N0 b B Wo kd t vN S' (j + 1) (M + c) v1 (xs ++ [x]) (w6.setCell ⟨b, 3, none⟩ v1) := by
  obtain ⟨fr, cnt, box, ox, len, good, size, base, old, oldB⟩ := h
  have hs1 := fr.size
  have hs2 := hf.size
  have hg5 : Grew w5 (w5.alloc (.cells #[Kv x.kind, St x.text, vn, vp] 28)) := (Fr.refl _ _).alloc _
  have hox := (ox.kept hf (fun k e => by omega)).kept hg5 (fun _ e => e.elim)
  have hD : ∀ k, k < wr.heap.size → True := fun _ _ => trivial
  have hDv : ∀ k, Dv B vA k → k < wr.heap.size := fun k e => by
    rcases e with e | e
    · omega
    · exact (ox.lt e).2
  obtain ⟨v1, w6, hrun, hox6, hf6⟩ := hox.app (by simp; omega) (by omega) (heap_alloc_new w5 (.cells #[Kv x.kind, St x.text, vn, vp] 28)) ((hn.mono (fun b _ e => hDv b e)).grew hg5) ((hr.mono (fun b _ e => hDv b e)).grew hg5) ty
  have hf56 := (Grew.any (F := fun k => vA.ownBlock = some k) hg5).trans hf6 (fun _ _ e => e)
  have hown : ∀ k, k < B → ¬ vA.ownBlock = some k := fun k hk e => by have := (ox.lt e).1; omega
  have hsep : ∀ {k o}, w5.heap[k]? = some o → k < B → w6.heap[k]? = some o := fun hk hb => hf56.get hk (hown _ hb)
  have box5 := hf.get box (by omega)
  have box6 := hsep box5 hb1
  have hset : Fr (fun k => k = b) w6 (w6.setCell ⟨b, 3, none⟩ v1) := (Fr.refl (fun k => k = b) w6).setCell (p := ⟨b, 3, none⟩) (fun _ => rfl) v1
  obtain ⟨aa, ca, e, -⟩ := hox6.shape
  obtain ⟨N2, hm2, hN1, hN2⟩ := hm
  refine ⟨v1, w6, hrun, ⟨aa, _, ca, e⟩, cell_of_get box6 3, frozen_of_get box6 3, ⟨?_, ⟨N2, ?_, hN1, by omega⟩, ?_, hox6.kept hset (fun k e => by omega), by simp [len], ?_, ?_, ?_, ?_, oldB⟩⟩
  · exact ((fr.trans hf (fun _ _ e => e)).trans hf56 (fun k hk e => absurd e (hown k (by omega)))).trans hset (fun k hk e => by omega)
  · exact hset.get (hsep hm2 (by omega)) (by omega)
  · simp [World.setCell, Array.getElem?_modify, box6]
  · intro y hy
    rcases List.mem_append.1 hy with hy | hy
    · exact good y hy
    · rw [List.mem_singleton.1 hy]; exact hgd
  · rw [sizes_append]; simp only [sizes]; omega
  · have := hf56.size; have := hset.size; omega
  · exact ((old.trans hf (fun _ _ e => .inl e)).trans hf56 (fun k hk e => absurd e (hown k (by omega)))).trans hset (fun k hk e => .inr e)

def P8T (w' : World) (mb N0 b B : Nat) (Wo : World) (kd : Int) (t : Str) (vN : Value) (S' : List Str) (j M : Nat) (vA : Value) (v : Value) (w : World) : Prop :=
  ∃ xs, (∃ a m c, v = .slice a m c) ∧ w.cell? ⟨b, 3, none⟩ = some vA ∧ w.frozen? ⟨b, 3, none⟩ = false ∧ AT w' mb N0 b B Wo kd t vN S' (j + 1) M v xs (w.setCell ⟨b, 3, none⟩ v)

/-- the append, in Term -/
theorem P8T.of {w' Wo : World} {mb N0 N1 b B : Nat} {kd : Int} {t : Str} {vN : Value} {S' : List Str} {j M c : Nat} {vA : Value} {xs : List X} {wr : World}
    (h : AT w' mb N0 b B Wo kd t vN S' j M vA xs wr) (hmb : mb < w'.heap.size) (hb0 : w'.heap.size ≤ b) (hb1 : b < B) (hj : j ≤ 100) (hn1 : N0 ≤ N1) (hn2 : N1 ≤ N0 + M) {u : Value} {w : World} (h7 : P7 wr mb N1 c S' u w) (ty : TypeId) :
    ∃ v1 w6, (Builtin.append_ #[26, 26] ty #[vA, u]).run Try.prog w = .ok v1 w6 ∧ P8T w' mb N0 b B Wo kd t vN S' j (M + c) vA v1 w6 ∧ Fr (fun k => k = mb ∨ vA.ownBlock = some k) w w6 := by
  obtain ⟨x, vn, vp, w5, rfl, rfl, hx⟩ := h7
  obtain ⟨N2, hm2, hN1, hN2⟩ := hx.cnt
  have hg5 : Grew w5 (w5.alloc (.cells #[Kv x.kind, St x.text, vn, vp] 28)) := (Fr.refl _ _).alloc _
  obtain ⟨v1, w6, hrun, hsh, hc, hf, has⟩ := h.step hmb hb0 hb1 hx.fr hx.nm hx.row hx.good hx.size ⟨N2, hm2, by omega, by omega⟩ hj ty
  refine ⟨v1, w6, hrun, ⟨_, hsh, hc, hf, has⟩, ?_⟩
  obtain ⟨an, cn, e1, -⟩ := hx.nm.shape
  obtain ⟨ax, cx, e2, -⟩ := hx.row.shape
  have hox := (h.ox.kept hx.fr (fun k e => by have := h.fr.size; omega)).kept hg5 (fun _ e => e.elim)
  have hDv : ∀ k, Dv B vA k → k < wr.heap.size := fun k e => by
    have := h.base
    rcases e with e | e
    · omega
    · exact (h.ox.lt e).2
  have hl := h.len
  have hb := h.base
  have hs2 := hx.fr.size
  obtain ⟨v2, w7, hrun2, -, hf7⟩ := hox.app (by simp; omega) (by omega) (heap_alloc_new w5 (.cells #[Kv x.kind, St x.text, vn, vp] 28)) ((hx.nm.mono (fun b _ e => hDv b e)).grew hg5) ((hx.row.mono (fun b _ e => hDv b e)).grew hg5) ty
  rw [hrun2] at hrun
  cases hrun
  exact hf7.mono (fun _ _ e => .inr e)
end Go.Proofs.Ytddcfnjmppijjaa
