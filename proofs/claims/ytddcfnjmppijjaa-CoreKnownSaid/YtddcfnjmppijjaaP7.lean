import Derived.Test.YtddcfnjmppijjaaP4
import Derived.Test.YtddcfnjmppijjaaP6
import Derived.Test.YtddcfnjmppijjaaM4
/-! Names in order: plain laws. -/
namespace Go.Proofs.Ytddcfnjmppijjaa
open Go.RowKit

theorem str_antisymm {x y : Str} (h1 : x ≤ y) (h2 : y ≤ x) : x = y := List.le_antisymm h1 h2
theorem str_total (x y : Str) : x ≤ y ∨ y ≤ x := List.le_total x y

/-- two rows in order, each of whose texts stands once, that have the same texts, are one -/
theorem sorted_eq : ∀ (l m : List Str), l.Pairwise (fun x y => x ≤ y) → m.Pairwise (fun x y => x ≤ y) → l.Nodup → m.Nodup → (∀ s, s ∈ l ↔ s ∈ m) → l = m
  | [], m, _, _, _, _, h => by
    cases m with
    | nil => rfl
    | cons y r => exact absurd ((h y).2 (by simp)) (by simp)
  | x :: l, [], _, _, _, _, h => absurd ((h x).1 (by simp)) (by simp)
  | x :: l, y :: m, hl, hm, nl, nm, h => by
    rw [List.pairwise_cons] at hl hm
    rw [List.nodup_cons] at nl nm
    have hxy : x = y := by
      rcases List.mem_cons.1 ((h x).1 (by simp)) with e | e
      · exact e
      · rcases List.mem_cons.1 ((h y).2 (by simp)) with e' | e'
        · exact e'.symm
        · exact str_antisymm (hl.1 y e') (hm.1 x e)
    subst hxy
    congr 1
    refine sorted_eq l m hl.2 hm.2 nl.2 nm.2 (fun s => ?_)
    have := h s
    simp only [List.mem_cons] at this
    constructor
    · intro hs
      rcases this.1 (.inr hs) with e | e
      · subst e; exact absurd hs nl.1
      · exact e
    · intro hs
      rcases this.2 (.inr hs) with e | e
      · subst e; exact absurd hs nm.1
      · exact e

theorem srt_nodup {l : List Str} (h : l.Nodup) : (srt l).Nodup := (srt_perm l).nodup_iff.2 h
theorem srt_mem (l : List Str) (s : Str) : s ∈ srt l ↔ s ∈ l := (srt_perm l).mem_iff

/-- what a maker's term has free is among the names that were there -/
theorem good_fv {S : List Str} {x : X} (h : Good S x) : ∀ s ∈ x.fv, s ∈ S := by
  have all : ∀ (T : List Str) (a : List X), (∀ x ∈ a, ∀ s ∈ x.fv, s ∈ T) → ∀ s ∈ fvs a, s ∈ T := by
    intro T a
    induction a with
    | nil => simp [fvs]
    | cons y r ih =>
      intro h s hs
      simp only [fvs, List.mem_append] at hs
      rcases hs with hs | hs
      · exact h y (by simp) s hs
      · exact ih (fun x hx => h x (by simp [hx])) s hs
  induction h with
  | int S t ht => simp [X.fv, fvs]
  | bool S t ht => simp [X.fv, fvs]
  | nil S => simp [X.fv, fvs]
  | sym S => simp [X.fv, fvs]
  | var S s hs => simpa [X.fv, fvs] using hs
  | lam S ns x h0 h1 h2 h3 hx ih =>
    intro s hs
    have hs' := (mem_fv 6 [] ns [x] s).1 hs
    rcases hs' with ⟨h, _⟩ | ⟨h1, h2⟩
    · cases h
    · have := all (S ++ ns) [x] (by simpa using ih) s h1
      exact (List.mem_append.1 this).resolve_right h2
  | app S a h1 h2 ha ih =>
    intro s hs
    rcases (mem_fv 7 [] [] a s).1 hs with ⟨h, _⟩ | ⟨h1, _⟩
    · cases h
    · exact all S a ih s h1
  | iff S a h1 ha ih =>
    intro s hs
    rcases (mem_fv 8 [] [] a s).1 hs with ⟨h, _⟩ | ⟨h1, _⟩
    · cases h
    · exact all S a ih s h1
  | lets S ns a h0 h1 h2 h3 hl ha ih =>
    intro s hs
    rcases (mem_fv 9 [] ns a s).1 hs with ⟨h, _⟩ | ⟨h1, h2⟩
    · cases h
    · exact (List.mem_append.1 (all (S ++ ns) a ih s h1)).resolve_right h2
  | prim S t a ht ha ih =>
    intro s hs
    rcases (mem_fv 10 t [] a s).1 hs with ⟨h, _⟩ | ⟨h1, _⟩
    · cases h
    · exact all S a ih s h1
theorem intsL_small2 : ∀ t ∈ intsL, t.length ≤ 900 := by decide
theorem twos_small2 : ∀ t ∈ twosL, t.length ≤ 900 := by decide
theorem ones_small2 : ∀ t ∈ onesL, t.length ≤ 900 := by decide

theorem good_small {S : List Str} {x : X} (h : Good S x) (hS : ∀ s ∈ S, Nme s) : Smn 900 x := by
  induction h with
  | int S t ht => exact .mk _ _ _ _ (intsL_small2 t ht) (by simp) (by simp) (by simp)
  | bool S t ht => exact .mk _ _ _ _ (by rcases ht with rfl | rfl <;> simp) (by simp) (by simp) (by simp)
  | nil S => exact .mk _ _ _ _ (by simp) (by simp) (by simp) (by simp)
  | sym S => exact .mk _ _ _ _ (by simp) (by simp) (by simp) (by simp)
  | var S s hs => exact .mk _ _ _ _ (by have := (hS s hs).2.1; omega) (by simp) (by simp) (by simp)
  | lam S ns x h0 h1 h2 h3 hx ih =>
    have hi := ih (fun s hs => (List.mem_append.1 hs).elim (hS s) (h3 s))
    exact .mk _ _ _ _ (by simp) (by omega) (by simp) (by simpa using hi)
  | app S a h1 h2 ha ih => exact .mk _ _ _ _ (by simp) (by simp) (by omega) (fun x hx => ih x hx hS)
  | iff S a h1 ha ih => exact .mk _ _ _ _ (by simp) (by simp) (by omega) (fun x hx => ih x hx hS)
  | lets S ns a h0 h1 h2 h3 hl ha ih =>
    exact .mk _ _ _ _ (by simp) (by omega) (by omega) (fun x hx => ih x hx (fun s hs => (List.mem_append.1 hs).elim (hS s) (h3 s)))
  | prim S t a ht ha ih =>
    rcases ht with ⟨h1, h2⟩ | ⟨h1, h2⟩
    · exact .mk _ _ _ _ (twos_small2 t h1) (by simp) (by omega) (fun x hx => ih x hx hS)
    · exact .mk _ _ _ _ (ones_small2 t h1) (by simp) (by omega) (fun x hx => ih x hx hS)
end Go.Proofs.Ytddcfnjmppijjaa
