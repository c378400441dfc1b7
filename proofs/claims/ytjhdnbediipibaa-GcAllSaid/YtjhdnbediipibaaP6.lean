import Derived.Test.YtjhdnbediipibaaP5
/-! Plain: roots that lead to one another (GcRoots). -/
namespace Go.Proofs.Ytjhdnbediipibaa

/-- so many numbers, and behind each what leads to it -/
structure PairInv (i : Nat) (A : AH) : Prop where
  wf : A.WF
  used : A.used = 4 * i
  words : A.words = 200
  int : ∀ j, j < i → A.find (4 * j) = some ⟨1, [], [(j : Int)]⟩
  ind : ∀ j, j < i → A.find (4 * j + 2) = some ⟨5, [4 * j], []⟩

def pairs : Nat → AH
  | 0 => ⟨[], 0, 200⟩
  | i + 1 => ((pairs i).add 1 [] [(i : Int)]).add 5 [4 * i] []

theorem pairs_zero : PairInv 0 (pairs 0) := ⟨WF_new 200 (by omega) (by omega), rfl, rfl, fun j h => by omega, fun j h => by omega⟩
theorem pairs_ok1 {i : Nat} (hi : i < 20) {A : AH} (h : PairInv i A) : A.AllocOk 1 [] [(i : Int)] :=
  ⟨⟨by decide, by decide, by simp, by simp, fun e => by simp at e, fun e => by simp at e, fun e => by simp at e⟩, fun x hx => by simp at hx, by rw [h.used, h.words]; simp [osz] <;> omega⟩
theorem pairs_u1 {i : Nat} {A : AH} (h : PairInv i A) : (A.add 1 [] [(i : Int)]).used = 4 * i + 2 := by
  show A.used + osz _ _ = _
  rw [h.used]; simp [osz]
theorem pairs_ok2 {i : Nat} (hi : i < 20) {A : AH} (h : PairInv i A) : (A.add 1 [] [(i : Int)]).AllocOk 5 [4 * i] [] := by
  refine ⟨⟨by decide, by decide, by simp, by simp, fun e => by simp at e, fun _ => ⟨by simp, by simp⟩, fun e => by simp at e⟩, fun x hx => .inl ?_, ?_⟩
  · rw [List.mem_singleton] at hx; subst hx
    rw [add_has]; exact .inr h.used.symm
  · rw [pairs_u1 h]
    show _ ≤ A.words
    rw [h.words]; simp [osz]; omega
theorem pairs_step {i : Nat} (hi : i < 20) {A : AH} (h : PairInv i A) : PairInv (i + 1) ((A.add 1 [] [(i : Int)]).add 5 [4 * i] []) := by
  have w1 := WF_add h.wf (pairs_ok1 hi h)
  have w2 := WF_add w1 (pairs_ok2 hi h)
  have u1 := pairs_u1 h
  refine ⟨w2, ?_, h.words, fun j hj => ?_, fun j hj => ?_⟩
  · show (A.add 1 [] [(i : Int)]).used + osz _ _ = _
    rw [u1]; simp [osz]; omega
  · by_cases e : j = i
    · subst e
      have := find_new h.wf 1 [] [(j : Int)]
      rw [h.used] at this
      exact find_mono this
    · exact find_mono (find_mono (h.int j (by omega)))
  · by_cases e : j = i
    · subst e
      have := find_new w1 5 [4 * (j : Int)] []
      rw [u1] at this
      exact this
    · exact find_mono (find_mono (h.ind j (by omega)))

/-- the addresses told so far -/
def evens (n : Nat) : List Int := (List.range n).map fun j : Nat => 2 * (j : Int)
theorem evens_len (n : Nat) : (evens n).length = n := by simp [evens]
theorem evens_at (n i : Nat) (h : i < (evens n).length) : (evens n)[i] = 2 * (i : Int) := by simp [evens]
theorem evens_step (n : Nat) : evens (2 * n) ++ [4 * (n : Int), 4 * n + 2] = evens (2 * (n + 1)) := by
  unfold evens
  rw [show 2 * (n + 1) = 2 * n + 1 + 1 by omega, List.range_succ, List.range_succ]
  simp
  omega

theorem pairs_short {n : Nat} {A : AH} (h : PairInv n A) {j : Nat} (hj : j < 2 * n) : A.short 1 (2 * (j : Int)) = 4 * ((j / 2 : Nat) : Int) ∧ A.has (2 * (j : Int)) := by
  have hf := h.int (j / 2) (by omega)
  have hi := h.ind (j / 2) (by omega)
  have hb0 : A.base (4 * ((j / 2 : Nat) : Int)) = 4 * ((j / 2 : Nat) : Int) := base_of hf (by simp) (by omega)
  have key : A.base (2 * (j : Int)) = 4 * ((j / 2 : Nat) : Int) ∧ A.has (2 * (j : Int)) := by
    rcases (by omega : j = 2 * (j / 2) ∨ j = 2 * (j / 2) + 1) with e | e
    · have e2 : 2 * (j : Int) = 4 * ((j / 2 : Nat) : Int) := by omega
      rw [e2]; exact ⟨hb0, by unfold AH.has; rw [hf]; simp⟩
    · have e2 : 2 * (j : Int) = 4 * ((j / 2 : Nat) : Int) + 2 := by omega
      rw [e2]
      refine ⟨?_, by unfold AH.has; rw [hi]; simp⟩
      obtain ⟨m, hm⟩ : ∃ m, A.objs.length = m + 1 := by
        cases ho : A.objs with
        | nil => simp [AH.find, ho, lookO] at hf
        | cons a r => exact ⟨r.length, by simp⟩
      have : A.follow (4 * ((j / 2 : Nat) : Int) + 2) = 4 * ((j / 2 : Nat) : Int) := by
        unfold AH.follow
        rw [hm]
        simp only [AH.followN, hi, if_true, List.getD_cons_zero, hf]
        simp
      unfold AH.base
      rw [this, if_pos (by omega)]
  refine ⟨?_, key.2⟩
  have ht : A.tag (4 * ((j / 2 : Nat) : Int)) ≠ 6 := by unfold AH.tag; rw [hf]; simp
  simp only [AH.short, key.1, ht, if_false]

/-- where the first ones stand -/
def ordOf : Nat → List Int → List (Int × Int)
  | _, [] => []
  | n, f :: r => (4 * f, 2 * (n : Int)) :: ordOf (n + 1) r

theorem ordOf_snoc (f : Int) : ∀ (l : List Int) (n : Nat), ordOf n (l ++ [f]) = ordOf n l ++ [(4 * f, 2 * ((n + l.length : Nat) : Int))]
  | [], n => by simp [ordOf]
  | x :: l, n => by
    simp only [List.cons_append, ordOf, ordOf_snoc f l (n + 1)]
    congr 3
    simp; omega
theorem ordOf_at : ∀ (l : List Int) (n i : Nat) (h : i < l.length), (4 * l[i], 2 * ((n + i : Nat) : Int)) ∈ ordOf n l
  | x :: l, n, 0, _ => by simp [ordOf]
  | x :: l, n, i + 1, h => by
    simp only [ordOf, List.mem_cons, List.getElem_cons_succ]
    have := ordOf_at l (n + 1) i (by simpa using h)
    rw [show n + 1 + i = n + (i + 1) by omega] at this
    exact .inr this
theorem ordOf_look {f : Int} : ∀ (l : List Int) (n i : Nat), i ≤ l.length → (∀ j (h : j < l.length), j < i → l[j] ≠ f) →
    (∀ h : i < l.length, l[i] = f) → lookI (4 * f) (ordOf n l) = if i < l.length then some (2 * ((n + i : Nat) : Int)) else none
  | [], n, i, hi, _, _ => by simp [ordOf, lookI]
  | x :: l, n, 0, _, _, h2 => by
    have : x = f := h2 (by simp)
    subst this
    simp [ordOf, lookI]
  | x :: l, n, i + 1, hi, h1, h2 => by
    have hx : x ≠ f := h1 0 (by simp) (by omega)
    have := ordOf_look l (n + 1) i (by simpa using hi) (fun j hj hji => h1 (j + 1) (by simpa using hj) (by omega)) (fun h => h2 (by simpa using h))
    simp only [ordOf, lookI]
    rw [if_neg (by omega), this]
    simp only [List.length_cons, Nat.add_lt_add_iff_right]
    rw [show n + 1 + i = n + (i + 1) by omega]

/-- the roots so far: what is wanted, what came first -/
structure Roots (n : Nat) (A : AH) (roots want first : List Int) : Prop where
  all : CS.all A 1 ⟨[], 0⟩ roots = (want, ⟨ordOf 0 first, 2 * first.length⟩)
  has : ∀ k ∈ roots, A.has k
  firsts : ∀ f ∈ first, ∃ j : Nat, f = j ∧ j < n

theorem Roots.nil (n : Nat) (A : AH) : Roots n A [] [] [] := ⟨rfl, by simp, by simp⟩
theorem Roots.step {n : Nat} {A : AH} (h : PairInv n A) {roots want first : List Int} (r : Roots n A roots want first) {j : Nat} (hj : j < 2 * n) {i : Nat} (hi : i ≤ first.length)
    (h1 : ∀ k (hk : k < first.length), k < i → first[k] ≠ ((j / 2 : Nat) : Int)) (h2 : ∀ hk : i < first.length, first[i] = ((j / 2 : Nat) : Int)) :
    Roots n A (roots ++ [2 * (j : Int)]) (want ++ [2 * (i : Int)]) (if i = first.length then first ++ [((j / 2 : Nat) : Int)] else first) := by
  obtain ⟨hs, hh⟩ := pairs_short h hj
  have hl := ordOf_look (f := ((j / 2 : Nat) : Int)) first 0 i hi h1 h2
  have hf := h.int (j / 2) (by omega)
  refine ⟨?_, ?_, ?_⟩
  · rw [CS.all_snoc, r.all]
    simp only [CS.stepAll, CS.copied, hs, hl]
    by_cases e : i = first.length
    · have hp : A.ptrs (4 * ((j / 2 : Nat) : Int)) = [] := by unfold AH.ptrs; rw [hf]; rfl
      have hn : A.nums (4 * ((j / 2 : Nat) : Int)) = [((j / 2 : Nat) : Int)] := by unfold AH.nums; rw [hf]; rfl
      rw [if_neg (by omega), if_pos e]
      simp only [CS.put, hp, hn, ordOf_snoc]
      simp [osz]
      omega
    · rw [if_pos (by omega), if_neg e]
      simp
  · intro k hk
    rcases List.mem_append.1 hk with hk | hk
    · exact r.has k hk
    · rw [List.mem_singleton] at hk; subst hk; exact hh
  · intro f hf
    split at hf
    · rcases List.mem_append.1 hf with hf | hf
      · exact r.firsts f hf
      · rw [List.mem_singleton] at hf; exact ⟨j / 2, hf, by omega⟩
    · exact r.firsts f hf

theorem run_still {A : AH} {d : Nat} {s : CS} (h : ∀ p ∈ s.ord, A.ptrs p.1 = []) : ∀ f i, CS.run A d f i s = s
  | 0, _ => rfl
  | f + 1, i => by
    unfold CS.run
    split
    · rename_i hi
      rw [h _ (List.getElem_mem hi)]
      exact run_still h f (i + 1)
    · rfl

/-- what GcRoots asks -/
theorem roots_law {n : Nat} {A : AH} (h : PairInv n A) {roots want first : List Int} (r : Roots n A roots want first) :
    A.told 1 roots = want ∧ (A.gcd 1 (A.final 1 roots)).used = 2 * first.length ∧ ∀ i (hi : i < first.length), (A.gcd 1 (A.final 1 roots)).nums (2 * (i : Int)) = [first[i]] := by
  have hfin : A.final 1 roots = ⟨ordOf 0 first, 2 * first.length⟩ := by
    unfold AH.final
    rw [r.all]
    refine run_still (fun p hp => ?_) _ _
    have gen : ∀ (l : List Int) (m : Nat), (∀ f ∈ l, ∃ j : Nat, f = j ∧ j < n) → p ∈ ordOf m l → A.ptrs p.1 = [] := by
      intro l
      induction l with
      | nil => intro m _ hp; simp [ordOf] at hp
      | cons x l ih =>
        intro m hl hp
        simp only [ordOf, List.mem_cons] at hp
        rcases hp with rfl | hp
        · obtain ⟨j, rfl, hj⟩ := hl x (by simp)
          simp [AH.ptrs, h.int j hj]
        · exact ih (m + 1) (fun f hf => hl f (by simp [hf])) hp
    exact gen first 0 r.firsts hp
  obtain ⟨hi, ha, _, _⟩ := final_inv h.wf 1 r.has
  have hfind := fun p hp => gcd_find (d := 1) h.wf hi ha (p := p) hp
  refine ⟨by unfold AH.told; rw [r.all], ?_, fun i hil => ?_⟩
  · rw [gcd_used hi, hfin]
  · have hm : (4 * first[i], 2 * ((0 + i : Nat) : Int)) ∈ (A.final 1 roots).ord := by rw [hfin]; exact ordOf_at first 0 i hil
    have := hfind _ hm
    rw [Nat.zero_add] at this
    simp only at this
    obtain ⟨j, hj, hjn⟩ := r.firsts _ (List.getElem_mem hil)
    unfold AH.nums
    rw [this]
    simp [AH.nums, hj, h.int j hjn]
end Go.Proofs.Ytjhdnbediipibaa
