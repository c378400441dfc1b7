import Derived.Test.YtddcfnjmppijjaaN9
import Derived.Deep.Slices
/-! A copy of one's own, turned in one place: what is left. -/
namespace Go.Proofs.Ytddcfnjmppijjaa
open Go.RowKit

/-- what a spoiling leaves: some term -/
def SpPost (w : World) (e : Ending) (w' : World) : Prop := ∃ e' x', e = .returned e' ∧ Rd w' (fun b => b < w.heap.size) e' x' ∧ Smn 901 x' ∧ Grew w w'

theorem sp_done {w w7 : World} (hg : Grew w w7) {k : Int} {t : Str} {ns : List Str} {xs : List X} {vN vA : Value} (hn : Nm w7 (fun b => b < w.heap.size + 2) vN ns) (hr : Row w7 (fun b => b < w.heap.size + 2) vA xs) (hs : Smn 901 (.mk k t ns xs)) (u0 u1 u2 u3 : Value) :
    SpPost w (.returned (.agg #[Kv k, St t, vN, vA])) (set4 w7 (w.heap.size + 1) u0 u1 u2 u3) := by
  have h4 := set4_fr w7 (w.heap.size + 1) u0 u1 u2 u3
  exact ⟨_, .mk k t ns xs, rfl, ⟨vN, vA, rfl, (hn.kept h4 (fun k e => by omega)).mono (fun k _ e => by omega), (hr.kept h4 (fun k e => by omega)).mono (fun k _ e => by omega)⟩, hs, Fr.trans hg h4 (fun k hk e => by omega)⟩

theorem nm_of_rt' {B : Nat} {w : World} {D : Nat → Prop} {v : Value} {l : List Str} (h : Rt B w v l) (hD : ∀ g, v.ownBlock = some g → ¬ D g) : Nm w D v l := by
  obtain ⟨ad, cap, rfl, h1, h2, h3⟩ := nm_of_rt h
  refine ⟨ad, cap, rfl, h1, h2, ?_⟩
  rcases h3 with h3 | ⟨g, o, rfl, -, h5⟩
  · exact .inl h3
  · exact .inr ⟨g, o, rfl, hD g rfl, h5⟩

theorem Row.take {w : World} {D : Nat → Prop} {ad : Option Addr} {n cap : Nat} {l : List X} (h : Row w D (.slice ad n cap) l) (i : Nat) (hi : i ≤ l.length) : Row w D (.slice ad i cap) (l.take i) := by
  generalize hv : Value.slice ad n cap = v at h
  cases h with
  | nil ad' cap' hm =>
    simp only [Value.slice.injEq] at hv
    obtain ⟨rfl, rfl, rfl⟩ := hv
    have : i = 0 := by simpa using hi
    subst this
    exact .nil _ _ hm
  | mk l g o cap' vn va hn hm hD h0 h1 h2 h3 hN hR =>
    simp only [Value.slice.injEq] at hv
    obtain ⟨rfl, rfl, rfl⟩ := hv
    have hl : (l.take i).length = i := by simp; omega
    have := Row.mk (w := w) (D := D) (l.take i) g o cap vn va (by omega) hm hD
      (fun j hj => by rw [List.getElem_take]; exact h0 j (by omega)) (fun j hj => by rw [List.getElem_take]; exact h1 j (by omega)) (fun j hj => h2 j (by omega)) (fun j hj => h3 j (by omega))
      (fun j hj => by rw [List.getElem_take]; exact hN j (by omega)) (fun j hj => by rw [List.getElem_take]; exact hR j (by omega))
    rwa [hl] at this

theorem Smn.parts {n : Nat} {x : X} (h : Smn n x) : ∀ y ∈ x.parts, Smn n y := by
  cases h with
  | mk k t ns a ht hn ha hs => exact hs

/-- a row of one's own, one put behind: whatever is written at b, that is none of it -/
theorem ox_app_row {B : Nat} {w2 : World} {vA : Value} {l : List X} (h : OX B w2 vA l) {W : World} (hg : Grew w2 W) (hB : B ≤ w2.heap.size) (hl : l.length ≤ 1000) {b gu : Nat} (hb : w2.heap.size ≤ b) (hbu : b < gu)
    (hc : W.heap[gu]? = some (.cells #[Kv 3, St [], .slice none 0 0, .slice none 0 0] 28 (0, 0))) (ty : TypeId) :
    ∃ v1 w6, (Builtin.append_ #[26, 26] ty #[vA, .slice (some ⟨gu, 0, none⟩) 1 1]).run Try.prog W = .ok v1 w6 ∧ (∃ a m c, v1 = .slice a m c) ∧ Fr (fun k => vA.ownBlock = some k) W w6 ∧ (∀ g, vA.ownBlock = some g → B ≤ g ∧ g < w2.heap.size) ∧
      ∀ (F : Nat → Prop) (W7 : World), Fr F w6 W7 → (∀ c, F c → c < B ∨ c = b) → Row W7 (fun k => k < B) v1 (l ++ [.mk 3 [] [] []]) := by
  obtain ⟨i, hi, hz, h1, h2⟩ := info_parts Try.i28
  obtain ⟨fl, ho0, hel⟩ := h.row
  have hgu := lt_of_get hc
  have ho : W.ownsRow B 28 4 vA l.length fl := by
    refine ⟨ho0.1, ?_⟩
    rcases ho0.2 with q | ⟨g, cap, cur, hv, hBg, hgg, r⟩
    · exact .inl q
    · exact .inr ⟨g, cap, cur, hv, hBg, hg.get hgg (fun f => f), r⟩
  have hlt : ∀ g, vA.ownBlock = some g → B ≤ g ∧ g < w2.heap.size := fun g hg => ho0.lt g hg
  have hs := hg.size
  obtain ⟨v', w', hrun, ho', hf, hgo⟩ := app_gen Try.u26 hi hz h1 h2 rfl (by omega) ho (by omega) ⟨gu, 0, none⟩ 1 1 [Kv 3, St [], .slice none 0 0, .slice none 0 0] (by simp) (fun j u hj => by
    rw [addr_at, Nat.zero_add, cell_of_get hc]
    match j, hj with
    | 0, hj => simpa using hj
    | 1, hj => simpa using hj
    | 2, hj => simpa using hj
    | 3, hj => simpa using hj
    | j + 4, hj => simp at hj) (fun u hu => by simp at hu; rcases hu with rfl | rfl | rfl | rfl <;> rfl) (by omega) (by omega) ty
  have hsh : ∃ a m c, v' = .slice a m c := by
    rcases ho'.2 with ⟨q, _⟩ | ⟨g, cap, cur, q, _⟩
    · exact ⟨_, _, _, q⟩
    · exact ⟨_, _, _, q⟩
  refine ⟨v', w', hrun, hsh, hf, hlt, fun F W7 hf7 hF7 => ?_⟩
  have hfl : fl.length = l.length * 4 := ho.1
  -- the elements, in W7
  have hN : ∀ u m, Nm w2 (Dv B vA) u m → Nm W7 (fun k => k < B) u m := fun u m k =>
    ((((k.mono (E := fun k => Dv B vA k ∨ k = b) (fun c hc e => by
      rcases e with e | e
      · exact e
      · omega)).grew hg).kept hf (fun c e => .inl (.inr e))).kept hf7 (fun c e => (hF7 c e).elim (fun q => .inl (.inl q)) .inr)).mono (fun c _ e => .inl (.inl e))
  have hR : ∀ u m, Row w2 (Dv B vA) u m → Row W7 (fun k => k < B) u m := fun u m k =>
    ((((k.mono (E := fun k => Dv B vA k ∨ k = b) (fun c hc e => by
      rcases e with e | e
      · exact e
      · omega)).grew hg).kept hf (fun c e => .inl (.inr e))).kept hf7 (fun c e => (hF7 c e).elim (fun q => .inl (.inl q)) .inr)).mono (fun c _ e => .inl (.inl e))
  rcases ho'.2 with ⟨rfl, q⟩ | ⟨g, cap, cur, rfl, hBg, hgg, q1, q2, q3, q4⟩
  · omega
  · have hgb : g ≠ b := fun e => by
      rcases hgo g rfl with q | q
      · have := (hlt g q).2; omega
      · have := hgu; omega
    have hcell : ∀ j u, (fl ++ [Kv 3, St [], .slice none 0 0, .slice none 0 0])[j]? = some u → W7.cell? ⟨g, j, none⟩ = some u := fun j u hj => by
      have := World.ownsRow.cells ho' (g := g) rfl j u hj
      rw [addr_at, Nat.zero_add] at this
      exact hf7.cell this (fun e => (hF7 g e).elim (fun q => by omega) hgb)
    have hd : ∀ i x, (l ++ [X.mk 3 [] [] []])[i]? = some x → ∃ p : Value × Value, (fl ++ [Kv 3, St [], .slice none 0 0, .slice none 0 0])[i * 4]? = some (Kv x.kind) ∧ (fl ++ [Kv 3, St [], .slice none 0 0, .slice none 0 0])[i * 4 + 1]? = some (St x.text) ∧ (fl ++ [Kv 3, St [], .slice none 0 0, .slice none 0 0])[i * 4 + 2]? = some p.1 ∧ (fl ++ [Kv 3, St [], .slice none 0 0, .slice none 0 0])[i * 4 + 3]? = some p.2 ∧ Nm W7 (fun k => k < B) p.1 x.names ∧ Row W7 (fun k => k < B) p.2 x.parts := fun j y hy => by
      by_cases hj : j < l.length
      · rw [List.getElem?_append_left hj] at hy
        obtain ⟨vn, va, e0, e1, e2, e3, k1, k2⟩ := hel j y hy
        refine ⟨(vn, va), ?_, ?_, ?_, ?_, hN _ _ k1, hR _ _ k2⟩
        · rw [List.getElem?_append_left (by omega)]; exact e0
        · rw [List.getElem?_append_left (by omega)]; exact e1
        · rw [List.getElem?_append_left (by omega)]; exact e2
        · rw [List.getElem?_append_left (by omega)]; exact e3
      · rw [List.getElem?_append_right (by omega)] at hy
        have hj2 : j = l.length := by
          have := (List.getElem?_eq_some_iff.1 hy).1
          simp at this; omega
        subst hj2
        simp at hy
        subst hy
        refine ⟨(.slice none 0 0, .slice none 0 0), ?_, ?_, ?_, ?_, ⟨none, 0, rfl, Nat.zero_le _, Nat.zero_le _, .inl rfl⟩, .nil none 0 (Nat.zero_le _)⟩
        · rw [List.getElem?_append_right (by omega), hfl, Nat.sub_self]; rfl
        · rw [List.getElem?_append_right (by omega), hfl, show l.length * 4 + 1 - l.length * 4 = 1 by omega]; rfl
        · rw [List.getElem?_append_right (by omega), hfl, show l.length * 4 + 2 - l.length * 4 = 2 by omega]; rfl
        · rw [List.getElem?_append_right (by omega), hfl, show l.length * 4 + 3 - l.length * 4 = 3 by omega]; rfl
    generalize hLe : l ++ [X.mk 3 [] [] []] = L at hd
    generalize fl ++ [Kv 3, St [], .slice none 0 0, .slice none 0 0] = FL at hd hcell
    have hLl : l.length + 1 = L.length := by rw [← hLe]; simp
    rw [hLl] at q1 ⊢
    obtain ⟨f, hf⟩ := Go.Deep.choose_lt (α := Value × Value) (n := L.length) (p := fun i p => ∀ x, L[i]? = some x → FL[i * 4]? = some (Kv x.kind) ∧ FL[i * 4 + 1]? = some (St x.text) ∧ FL[i * 4 + 2]? = some p.1 ∧ FL[i * 4 + 3]? = some p.2 ∧ Nm W7 (fun k => k < B) p.1 x.names ∧ Row W7 (fun k => k < B) p.2 x.parts) (fun i hi => by
      obtain ⟨p, hp⟩ := hd i L[i] (List.getElem?_eq_getElem hi)
      exact ⟨p, fun x hx => by rw [List.getElem?_eq_getElem hi] at hx; cases hx; exact hp⟩)
    have hf' : ∀ i (hi : i < L.length), _ := fun i hi => hf i hi L[i] (List.getElem?_eq_getElem hi)
    refine .mk L g 0 cap (fun i => (f i).1) (fun i => (f i).2) q1 q2 (by omega) ?_ ?_ ?_ ?_ ?_ ?_
    · intro i hi; rw [Nat.zero_add]; exact hcell _ _ (hf' i hi).1
    · intro i hi; rw [Nat.zero_add]; exact hcell _ _ (hf' i hi).2.1
    · intro i hi; rw [Nat.zero_add]; exact hcell _ _ (hf' i hi).2.2.1
    · intro i hi; rw [Nat.zero_add]; exact hcell _ _ (hf' i hi).2.2.2.1
    · intro i hi; exact (hf' i hi).2.2.2.2.1
    · intro i hi; exact (hf' i hi).2.2.2.2.2
end Go.Proofs.Ytddcfnjmppijjaa
