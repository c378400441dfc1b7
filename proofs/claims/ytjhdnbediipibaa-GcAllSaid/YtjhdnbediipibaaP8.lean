import Derived.Test.YtjhdnbediipibaaP7
/-! The deeper the selectors, the fewer words. -/
namespace Go.Proofs.Ytjhdnbediipibaa
open Go.RowKit

/-- what all that is copied has in common -/
theorem all_prop {A : AH} {d : Nat} {Φ : Int → Prop} {s : CS} (hs : ∀ k ∈ s.ord.map (·.1), Φ k) (l : List Int) (hl : ∀ q ∈ l, Φ (A.short d q)) : ∀ k ∈ (s.all A d l).2.ord.map (·.1), Φ k := by
  refine snoc_ind (P := fun l => (∀ q ∈ l, Φ (A.short d q)) → ∀ k ∈ (s.all A d l).2.ord.map (·.1), Φ k) (fun _ => hs) (fun l k ih hl => ?_) l hl
  rw [CS.all_snoc]
  have h1 := ih (fun q hq => hl q (by simp [hq]))
  have h2 := hl k (by simp)
  unfold CS.stepAll CS.copied
  cases lookI (A.short d k) (s.all A d l).2.ord with
  | some n => exact h1
  | none =>
    intro x hx
    simp only [CS.put, List.map_append, List.mem_append, List.map_cons, List.map_nil, List.mem_singleton] at hx
    rcases hx with hx | rfl
    · exact h1 x hx
    · exact h2
theorem run_prop {A : AH} {d : Nat} {Φ : Int → Prop} (hc : ∀ k, Φ k → ∀ q ∈ A.ptrs k, Φ (A.short d q)) : ∀ (f i : Nat) (s : CS), (∀ k ∈ s.ord.map (·.1), Φ k) → ∀ k ∈ (CS.run A d f i s).ord.map (·.1), Φ k
  | 0, _, _, h => h
  | f + 1, i, s, h => by
    unfold CS.run
    split
    · rename_i hi
      refine run_prop hc f (i + 1) _ (all_prop h _ (fun q hq => hc _ (h _ ?_) q hq))
      exact List.mem_map.2 ⟨_, List.getElem_mem hi, rfl⟩
    · exact h
theorem final_prop {A : AH} {d : Nat} {Φ : Int → Prop} (hc : ∀ k, Φ k → ∀ q ∈ A.ptrs k, Φ (A.short d q)) {roots : List Int} (hr : ∀ q ∈ roots, Φ (A.short d q)) : ∀ k ∈ (A.final d roots).ord.map (·.1), Φ k :=
  run_prop hc _ _ _ (all_prop (by simp) roots hr)

theorem lookI_ne {k : Int} {l : List (Int × Int)} (h : lookI k l ≠ none) : k ∈ l.map (·.1) := by
  apply Classical.byContradiction
  intro hn
  exact h (lookI_none.2 hn)

/-- the selectors' way stays among what is there -/
theorem short_in {A : AH} (hW : A.WF) {Φ : Int → Prop} (hc : ∀ k, Φ k → ∀ q ∈ A.ptrs k, Φ (A.base q)) : ∀ (d : Nat) (x : Int), Φ (A.base x) → Φ (A.short d x)
  | 0, x, h => h
  | d + 1, x, h => by
    unfold AH.short
    split
    · rename_i h6
      obtain ⟨p, n, hp, hn, hn01⟩ := hW.shaped.sel h6
      have h1 : Φ (A.short d p) := short_in hW hc d p (hc _ h p (by rw [hp]; simp))
      simp only [hp, hn, List.getD_cons_zero]
      split
      · rename_i h2
        obtain ⟨y, z, hy⟩ := hW.shaped.con h2
        refine short_in hW hc d _ (hc _ h1 _ ?_)
        rw [hy.1]
        rcases hn01 with rfl | rfl <;> simp
      · exact h
    · exact h

theorem deeper_law {A : AH} (h : A.WF) (d : Nat) {roots : List Int} (hr : ∀ k ∈ roots, A.has k) :
    (A.gcd d (A.final d roots)).used ≤ (A.gcd 0 (A.final 0 roots)).used ∧ (A.gcd 0 (A.final 0 roots)).used ≤ A.used := by
  obtain ⟨i0, _, c0, m, hm⟩ := final_inv h 0 hr
  obtain ⟨i1, _, _, _⟩ := final_inv h d hr
  have hall := (all_grows A 0 ⟨[], 0⟩ roots).2
  have hc : ∀ k, k ∈ (A.final 0 roots).ord.map (·.1) → ∀ q ∈ A.ptrs k, A.base q ∈ (A.final 0 roots).ord.map (·.1) := by
    intro k hk q hq
    obtain ⟨p, hp, rfl⟩ := List.mem_map.1 hk
    exact lookI_ne (c0 p hp q hq)
  have hb : ∀ q ∈ roots, A.base q ∈ (A.final 0 roots).ord.map (·.1) := by
    intro q hq
    have := lookI_ne (hall q hq)
    rw [hm, List.map_append]
    exact List.mem_append_left _ this
  have hsub := final_prop (d := d) (Φ := fun k => k ∈ (A.final 0 roots).ord.map (·.1)) (fun k hk q hq => short_in h hc d q (hc k hk q hq)) (fun q hq => short_in h hc d q (hb q hq))
  refine ⟨?_, ?_⟩
  · exact sumAt_sub A _ _ i1.nodup hsub
  · have h1 := sumAt_sub A _ _ i0.nodup (fun k hk => (has_iff.1 (i0.has k hk)))
    rw [sumAt_all h] at h1
    have h2 := h.sum
    show sumAt A _ ≤ _
    omega
end Go.Proofs.Ytjhdnbediipibaa
