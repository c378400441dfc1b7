import Derived.Test.YtddcfnjmppijjaaN10
/-! A row of one's own, one element of it written over. -/
namespace Go.Proofs.Ytddcfnjmppijjaa
open Go.RowKit

/-- four cells written, from o on -/
abbrev at4 (w : World) (g o : Nat) (u0 u1 u2 u3 : Value) : World := (((w.setCell ⟨g, o, none⟩ u0).setCell ⟨g, o + 1, none⟩ u1).setCell ⟨g, o + 2, none⟩ u2).setCell ⟨g, o + 3, none⟩ u3
theorem at4_fr (w : World) (g o : Nat) (u0 u1 u2 u3 : Value) : Fr (fun k => k = g) w (at4 w g o u0 u1 u2 u3) := by
  have h0 : Fr (fun k => k = g) w (w.setCell ⟨g, o, none⟩ u0) := (Fr.refl (fun k => k = g) w).setCell (p := ⟨g, o, none⟩) (fun _ => rfl) u0
  have h1 := h0.setCell (p := ⟨g, o + 1, none⟩) (fun _ => rfl) u1
  have h2 := h1.setCell (p := ⟨g, o + 2, none⟩) (fun _ => rfl) u2
  exact h2.setCell (p := ⟨g, o + 3, none⟩) (fun _ => rfl) u3
theorem cell_set_ne (w : World) (g p q : Nat) (v : Value) (h : q ≠ p) : (w.setCell ⟨g, p, none⟩ v).cell? ⟨g, q, none⟩ = w.cell? ⟨g, q, none⟩ :=
  World.cell?_setCell_other (w := w) (a := ⟨g, p, none⟩) (b := ⟨g, q, none⟩) (v := v) (by simp <;> omega)
theorem at4_out (w : World) (g o p : Nat) (u0 u1 u2 u3 : Value) (h : p < o ∨ o + 4 ≤ p) : (at4 w g o u0 u1 u2 u3).cell? ⟨g, p, none⟩ = w.cell? ⟨g, p, none⟩ := by
  unfold at4
  rw [cell_set_ne _ _ _ _ _ (by omega), cell_set_ne _ _ _ _ _ (by omega), cell_set_ne _ _ _ _ _ (by omega), cell_set_ne _ _ _ _ _ (by omega)]
theorem at4_0 {w : World} {g o : Nat} {c0 c1 c2 c3 : Value} (h0 : w.cell? ⟨g, o, none⟩ = some c0) (h1 : w.cell? ⟨g, o + 1, none⟩ = some c1) (h2 : w.cell? ⟨g, o + 2, none⟩ = some c2) (h3 : w.cell? ⟨g, o + 3, none⟩ = some c3) (u0 u1 u2 u3 : Value) :
    (at4 w g o u0 u1 u2 u3).cell? ⟨g, o, none⟩ = some u0 ∧ (at4 w g o u0 u1 u2 u3).cell? ⟨g, o + 1, none⟩ = some u1 ∧ (at4 w g o u0 u1 u2 u3).cell? ⟨g, o + 2, none⟩ = some u2 ∧ (at4 w g o u0 u1 u2 u3).cell? ⟨g, o + 3, none⟩ = some u3 := by
  refine ⟨?_, ?_, ?_, ?_⟩
  · rw [cell_set_ne _ _ _ _ _ (by omega), cell_set_ne _ _ _ _ _ (by omega), cell_set_ne _ _ _ _ _ (by omega)]
    exact World.cell?_setCell_same _ _ _ h0
  · rw [cell_set_ne _ _ _ _ _ (by omega), cell_set_ne _ _ _ _ _ (by omega)]
    refine World.cell?_setCell_same _ _ _ (u := c1) ?_
    rw [cell_set_ne _ _ _ _ _ (by omega)]; exact h1
  · rw [cell_set_ne _ _ _ _ _ (by omega)]
    refine World.cell?_setCell_same _ _ _ (u := c2) ?_
    rw [cell_set_ne _ _ _ _ _ (by omega), cell_set_ne _ _ _ _ _ (by omega)]; exact h2
  · refine World.cell?_setCell_same _ _ _ (u := c3) ?_
    rw [cell_set_ne _ _ _ _ _ (by omega), cell_set_ne _ _ _ _ _ (by omega), cell_set_ne _ _ _ _ _ (by omega)]; exact h3

/-- an element of a row of one's own is another -/
theorem ox_set_row {B : Nat} {w2 : World} {g n cap : Nat} {l : List X} (h : OX B w2 (.slice (some ⟨g, 0, none⟩) n cap) l) {W : World} (hg : Grew w2 W) {k : Nat} (hk : k < l.length) {x' : X} {vn va : Value} (hn : Nm W (fun c => c < w2.heap.size) vn x'.names) (hr : Row W (fun c => c < w2.heap.size) va x'.parts) :
    (∀ i, i < 4 → W.frozen? ⟨g, k * 4 + i, none⟩ = false ∧ ∃ u, W.cell? ⟨g, k * 4 + i, none⟩ = some u) ∧ B ≤ g ∧ g < w2.heap.size ∧
    Row (at4 W g (k * 4) (Kv x'.kind) (St x'.text) vn va) (fun c => c < B) (.slice (some ⟨g, 0, none⟩) n cap) (l.set k x') := by
  obtain ⟨fl, ho, hel⟩ := h.row
  have hfl : fl.length = l.length * 4 := ho.1
  obtain ⟨hBg, hg2⟩ := ho.lt g rfl
  rcases ho.2 with ⟨q, _⟩ | ⟨g', cap', cur, hv, -, hgg, q1, q2, q3, q4⟩
  · cases q
  simp only [Value.slice.injEq, Option.some.injEq, Addr.mk.injEq] at hv
  obtain ⟨⟨rfl, -, -⟩, rfl, rfl⟩ := hv
  have hggW := hg.get hgg (fun f => f)
  have hcell : ∀ j u, fl[j]? = some u → W.cell? ⟨g, j, none⟩ = some u := fun j u hj => by
    have := World.ownsRow.cells ho (g := g) rfl j u hj
    rw [addr_at, Nat.zero_add] at this
    exact hg.cell this (fun f => f)
  have hat : ∀ i, i < 4 → ∃ u, fl[k * 4 + i]? = some u := fun i hi => ⟨_, List.getElem?_eq_getElem (by omega)⟩
  obtain ⟨u0, hu0⟩ := hat 0 (by omega)
  obtain ⟨u1, hu1⟩ := hat 1 (by omega)
  obtain ⟨u2, hu2⟩ := hat 2 (by omega)
  obtain ⟨u3, hu3⟩ := hat 3 (by omega)
  have h4 := at4_0 (hcell _ _ hu0) (hcell _ _ hu1) (hcell _ _ hu2) (hcell _ _ hu3) (Kv x'.kind) (St x'.text) vn va
  have hF := at4_fr W g (k * 4) (Kv x'.kind) (St x'.text) vn va
  refine ⟨fun i hi => ⟨frozen_of_get hggW _, _, hcell _ _ (hat i hi).choose_spec⟩, hBg, hg2, ?_⟩
  have hout : ∀ p u, (p < k * 4 ∨ k * 4 + 4 ≤ p) → fl[p]? = some u → (at4 W g (k * 4) (Kv x'.kind) (St x'.text) vn va).cell? ⟨g, p, none⟩ = some u := fun p u hp hu => by
    rw [at4_out _ _ _ _ _ _ _ _ hp]; exact hcell p u hu
  generalize at4 W g (k * 4) (Kv x'.kind) (St x'.text) vn va = W7 at *
  have hd : ∀ i, i < l.length → ∃ p : Value × Value, ∀ x, (l.set k x')[i]? = some x → W7.cell? ⟨g, i * 4, none⟩ = some (Kv x.kind) ∧ W7.cell? ⟨g, i * 4 + 1, none⟩ = some (St x.text) ∧ W7.cell? ⟨g, i * 4 + 2, none⟩ = some p.1 ∧ W7.cell? ⟨g, i * 4 + 3, none⟩ = some p.2 ∧ Nm W7 (fun c => c < B) p.1 x.names ∧ Row W7 (fun c => c < B) p.2 x.parts := fun i hi => by
    by_cases hik : i = k
    · subst hik
      refine ⟨(vn, va), fun x hx => ?_⟩
      rw [List.getElem?_set_self hi] at hx
      cases hx
      exact ⟨h4.1, h4.2.1, h4.2.2.1, h4.2.2.2, (hn.kept hF (fun c e => by omega)).mono (fun c _ e => by omega), (hr.kept hF (fun c e => by omega)).mono (fun c _ e => by omega)⟩
    · obtain ⟨vn', va', e0, e1, e2, e3, k1, k2⟩ := hel i l[i] (List.getElem?_eq_getElem hi)
      refine ⟨(vn', va'), fun x hx => ?_⟩
      rw [List.getElem?_set_ne (fun e => hik e.symm), List.getElem?_eq_getElem hi] at hx
      cases hx
      exact ⟨hout _ _ (by omega) e0, hout _ _ (by omega) e1, hout _ _ (by omega) e2, hout _ _ (by omega) e3,
        ((k1.grew hg).kept hF (fun c e => .inr (by rw [e]; rfl))).mono (fun c _ e => .inl e), ((k2.grew hg).kept hF (fun c e => .inr (by rw [e]; rfl))).mono (fun c _ e => .inl e)⟩
  obtain ⟨f, hf⟩ := Go.Deep.choose_lt (α := Value × Value) (n := l.length) hd
  generalize hL : l.set k x' = L at hf
  have hLl : l.length = L.length := by rw [← hL]; simp
  rw [hLl] at hf q1 ⊢
  have hf' : ∀ i (hi : i < L.length), _ := fun i hi => hf i hi L[i] (List.getElem?_eq_getElem hi)
  refine .mk L g 0 cap (fun i => (f i).1) (fun i => (f i).2) q1 q2 (by omega) ?_ ?_ ?_ ?_ ?_ ?_
  · intro i hi; rw [Nat.zero_add]; exact (hf' i hi).1
  · intro i hi; rw [Nat.zero_add]; exact (hf' i hi).2.1
  · intro i hi; rw [Nat.zero_add]; exact (hf' i hi).2.2.1
  · intro i hi; rw [Nat.zero_add]; exact (hf' i hi).2.2.2.1
  · intro i hi; exact (hf' i hi).2.2.2.2.1
  · intro i hi; exact (hf' i hi).2.2.2.2.2

/-- the second name is the first -/
theorem rt_set {B : Nat} {w : World} {vN : Value} {ns : List Str} (h : Rt B w vN ns) (h1 : 1 < ns.length) :
    ∃ g cap s0 s1, vN = .slice (some ⟨g, 0, none⟩) ns.length cap ∧ B ≤ g ∧ g < w.heap.size ∧ ns.length ≤ cap ∧ cap ≤ maxLen ∧ w.cell? ⟨g, 0, none⟩ = some (St s0) ∧ w.cell? ⟨g, 1, none⟩ = some (St s1) ∧ w.frozen? ⟨g, 1, none⟩ = false ∧ s0 ∈ ns ∧
      Nm (w.setCell ⟨g, 1, none⟩ (St s0)) (fun c => c < B) vN (ns.set 1 s0) := by
  have h0 := h
  rcases h.2 with ⟨rfl, q⟩ | ⟨g, cap, cur, rfl, hgB, hg, h3, h4, h5, h6⟩
  · omega
  obtain ⟨s0, hs0⟩ : ∃ s, ns[0]? = some s := at_of_lt (by omega)
  obtain ⟨s1, hs1⟩ : ∃ s, ns[1]? = some s := at_of_lt h1
  refine ⟨g, cap, s0, s1, rfl, hgB, lt_of_get hg, h3, h4, Rt.cellAt h0 0 s0 hs0, Rt.cellAt h0 1 s1 hs1, frozen_of_get hg 1, List.mem_of_getElem? hs0, ?_⟩
  refine ⟨_, cap, by rw [List.length_set], by rw [List.length_set]; exact h3, h4, .inr ⟨g, 0, rfl, by omega, fun i hi => ?_⟩⟩
  rw [List.length_set] at hi
  rw [Nat.zero_add]
  by_cases hi1 : i = 1
  · subst hi1
    rw [List.getElem_set_self]
    exact World.cell?_setCell_same _ _ _ (Rt.cellAt h0 1 s1 hs1)
  · rw [List.getElem_set_ne (fun e => hi1 e.symm), cell_set_ne _ _ _ _ _ hi1]
    exact Rt.cellAt h0 i ns[i] (List.getElem?_eq_getElem hi)
end Go.Proofs.Ytddcfnjmppijjaa
