import Derived.Test.YtjhdnbediipibaaK5
/-! Rows made by calls in any order, and handed on: those of two groups lie apart. -/
namespace Go.Proofs.Ytjhdnbediipibaa
open Go.RowKit

/-- what such a region keeps: rows in slots of two groups lie apart -/
def IG (N : Nat) (f : Tmp → Nat) (a : Act) (w : World) : Prop :=
  a.tmps.size = N ∧ ∀ s t, f s ≠ 0 → f t ≠ 0 → f s ≠ f t → Sep w (a.tmps.getD s undef) (a.tmps.getD t undef)
theorem IG.other {N : Nat} {f : Tmp → Nat} {a : Act} {w w' : World} (h : IG N f a w) (hs : Grew w w') {d : Tmp} (v : Value) (hd : f d = 0) : IG N f (a.put (some d) v) w' := by
  refine ⟨by rw [put_size]; exact h.1, fun s t h1 h2 h3 => ?_⟩
  have e1 : d ≠ s := fun e => h1 (e ▸ hd)
  have e2 : d ≠ t := fun e => h2 (e ▸ hd)
  rw [put_getD_ne v e1, put_getD_ne v e2]
  exact (h.2 s t h1 h2 h3).grow hs.size
theorem IG.new {N : Nat} {f : Tmp → Nat} {a : Act} {w w' : World} (h : IG N f a w) (hs : Grew w w') {d : Tmp} {v : Value} (hN : d < N) (hv : ∀ g, v.ownBlock = some g → w.heap.size ≤ g ∧ g < w'.heap.size) : IG N f (a.put (some d) v) w' := by
  refine ⟨by rw [put_size]; exact h.1, fun s t h1 h2 h3 => ?_⟩
  by_cases e1 : d = s
  · subst e1
    have e2 : d ≠ t := fun e => h3 (by rw [e])
    rw [put_getD_eq v (by rw [h.1]; exact hN), put_getD_ne v e2]
    exact (h.2 d t h1 h2 h3).left hs.size (fun g hg => ⟨.inr (hv g hg).1, (hv g hg).2⟩)
  · by_cases e2 : d = t
    · subst e2
      rw [put_getD_eq v (by rw [h.1]; exact hN), put_getD_ne v e1]
      exact (h.2 s d h1 h2 h3).right hs.size (fun g hg => ⟨.inr (hv g hg).1, (hv g hg).2⟩)
    · rw [put_getD_ne v e1, put_getD_ne v e2]
      exact (h.2 s t h1 h2 h3).grow hs.size
theorem IG.copy {N : Nat} {f : Tmp → Nat} {a : Act} {w : World} (h : IG N f a w) {d c : Tmp} (hN : d < N) (hf : f d = f c) : IG N f (a.put (some d) (a.tmps.getD c undef)) w := by
  refine ⟨by rw [put_size]; exact h.1, fun s t h1 h2 h3 => ?_⟩
  by_cases e1 : d = s
  · subst e1
    have e2 : d ≠ t := fun e => h3 (by rw [e])
    rw [put_getD_eq _ (by rw [h.1]; exact hN), put_getD_ne _ e2]
    exact h.2 c t (hf ▸ h1) h2 (hf ▸ h3)
  · by_cases e2 : d = t
    · subst e2
      rw [put_getD_eq _ (by rw [h.1]; exact hN), put_getD_ne _ e1]
      exact h.2 s c h1 (hf ▸ h2) (hf ▸ h3)
    · rw [put_getD_ne _ e1, put_getD_ne _ e2]
      exact h.2 s t h1 h2 h3
theorem IG.start {N : Nat} {f : Tmp → Nat} {a : Act} {w : World} (hN : a.tmps.size = N) (h : ∀ s, f s ≠ 0 → a.tmps.getD s undef = undef) : IG N f a w := by
  refine ⟨hN, fun s t h1 h2 _ => ?_⟩
  rw [h s h1, h t h2]
  refine ⟨fun g hg => ?_, fun g hg => ?_, fun g hg => ?_⟩ <;> exact absurd hg (by simp [Go.undef, Value.ownBlock])
theorem IG.last3 {N : Nat} {f : Tmp → Nat} {a : Act} {w : World} {d1 d2 d3 : Tmp} {v1 v2 v3 : Value} (h : IG N f (((a.put (some d1) v1).put (some d2) v2).put (some d3) v3) w)
    (n1 : d1 < N) (n2 : d2 < N) (n3 : d3 < N) (h1 : f d1 ≠ 0) (h2 : f d2 ≠ 0) (h3 : f d3 ≠ 0) (h12 : f d1 ≠ f d2) (h13 : f d1 ≠ f d3) (h23 : f d2 ≠ f d3) : Sep w v1 v2 ∧ Sep w v1 v3 ∧ Sep w v2 v3 := by
  have e12 : d1 ≠ d2 := fun e => h12 (by rw [e])
  have e13 : d1 ≠ d3 := fun e => h13 (by rw [e])
  have e23 : d2 ≠ d3 := fun e => h23 (by rw [e])
  have hs := h.1
  rw [put_size, put_size, put_size] at hs
  have g1 : (((a.put (some d1) v1).put (some d2) v2).put (some d3) v3).tmps.getD d1 undef = v1 := by
    rw [put_getD_ne _ (Ne.symm e13), put_getD_ne _ (Ne.symm e12), put_getD_eq]; rw [hs]; exact n1
  have g2 : (((a.put (some d1) v1).put (some d2) v2).put (some d3) v3).tmps.getD d2 undef = v2 := by
    rw [put_getD_ne _ (Ne.symm e23), put_getD_eq]; rw [put_size, hs]; exact n2
  have g3 : (((a.put (some d1) v1).put (some d2) v2).put (some d3) v3).tmps.getD d3 undef = v3 := by
    rw [put_getD_eq]; rw [put_size, put_size, hs]; exact n3
  have s12 := h.2 d1 d2 h1 h2 h12
  have s13 := h.2 d1 d3 h1 h3 h13
  have s23 := h.2 d2 d3 h2 h3 h23
  rw [g1, g2] at s12
  rw [g1, g3] at s13
  rw [g2, g3] at s23
  exact ⟨s12, s13, s23⟩
theorem FMine.made {n0 : Nat} {l : List Int} {v : Value} {w w2 : World} (h1 : Ow w2 v l) (h3 : ∀ g, v.ownBlock = some g → w.heap.size ≤ g) (hn : n0 ≤ w.heap.size) : FMine n0 l v w2 := by
  obtain ⟨a, c, e, _⟩ := h1.shape
  exact ⟨⟨a, c, e⟩, h1, fun g hg => Nat.le_trans hn (h3 g hg)⟩
end Go.Proofs.Ytjhdnbediipibaa
