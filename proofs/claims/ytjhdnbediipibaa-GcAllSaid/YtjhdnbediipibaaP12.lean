import Derived.Test.YtjhdnbediipibaaP11
/-! What is left is what is reached; what only leads on in it are rings. -/
namespace Go.Proofs.Ytjhdnbediipibaa
open Go.RowKit

theorem lookI_of_mem {k n : Int} : ∀ {l : List (Int × Int)}, (l.map (·.1)).Nodup → (k, n) ∈ l → lookI k l = some n
  | [], _, h => by simp at h
  | p :: r, hn, h => by
    simp only [List.map_cons, List.nodup_cons] at hn
    unfold lookI
    rcases List.mem_cons.1 h with rfl | h
    · simp
    · have hne : k ≠ p.1 := fun e => hn.1 (e ▸ List.mem_map.2 ⟨_, h, rfl⟩)
      rw [if_neg hne]
      exact lookI_of_mem hn.2 h

section
variable {A : AH} {d : Nat} {roots : List Int}

/-- an object that is left: it was one, it is found, its pointers are where those are -/
theorem left_is (h : A.WF) (hr : ∀ k ∈ roots, A.has k) {k y : Int} (hl : lookI k (A.final d roots).ord = some y) :
    A.has k ∧ (A.gcd d (A.final d roots)).has y ∧ (A.gcd d (A.final d roots)).tag y = A.tag k ∧ (A.gcd d (A.final d roots)).nums y = A.nums k ∧
      (A.gcd d (A.final d roots)).ptrs y = (A.ptrs k).map ((A.final d roots).new A d) ∧ ∀ q ∈ A.ptrs k, ∃ z, lookI (A.short d q) (A.final d roots).ord = some z ∧ (A.final d roots).new A d q = z := by
  obtain ⟨hi, ha, hc, _⟩ := final_inv h d hr
  have hp := lookI_pair hl
  have hf := gcd_find (d := d) h hi ha hp
  refine ⟨hi.has k (List.mem_map.2 ⟨_, hp, rfl⟩), ?_, ?_, ?_, ?_, fun q hq => ?_⟩
  · unfold AH.has; rw [hf]; simp
  · simp [AH.tag, hf]
  · simp [AH.nums, hf]
  · simp [AH.ptrs, hf, CS.row]
  · obtain ⟨z, hz⟩ := Option.ne_none_iff_exists'.1 (hc _ hp q hq)
    exact ⟨z, hz, by simp [CS.new, hz]⟩

theorem left_of (h : A.WF) (hr : ∀ k ∈ roots, A.has k) {y : Int} (hy : (A.gcd d (A.final d roots)).has y) : ∃ k, lookI k (A.final d roots).ord = some y := by
  obtain ⟨hi, _, _, _⟩ := final_inv h d hr
  rw [has_iff, gcd_keys] at hy
  obtain ⟨p, hp, rfl⟩ := List.mem_map.1 hy
  exact ⟨p.1, lookI_of_mem hi.nodup hp⟩

/-- where the roots are told to be -/
theorem told_is (h : A.WF) (hr : ∀ k ∈ roots, A.has k) : A.told d roots = roots.map ((A.final d roots).new A d) ∧ ∀ q ∈ roots, ∃ z, lookI (A.short d q) (A.final d roots).ord = some z ∧ (A.final d roots).new A d q = z := by
  obtain ⟨_, _, _, m, hm⟩ := final_inv h d hr
  have gen : ∀ l : List Int, ∀ (m : List (Int × Int)) (o : List (Int × Int)), o = (CS.all A d ⟨[], 0⟩ l).2.ord ++ m → (CS.all A d ⟨[], 0⟩ l).1 = l.map (fun q => (lookI (A.short d q) o).getD 0) := by
    intro l
    refine snoc_ind (P := fun l => ∀ (m : List (Int × Int)) (o : List (Int × Int)), o = (CS.all A d ⟨[], 0⟩ l).2.ord ++ m → (CS.all A d ⟨[], 0⟩ l).1 = l.map (fun q => (lookI (A.short d q) o).getD 0)) (fun _ _ _ => rfl) (fun l k ih m o ho => ?_) l
    rw [CS.all_snoc] at ho ⊢
    obtain ⟨⟨m2, hm2⟩, h2⟩ := copied_grows A d (CS.all A d ⟨[], 0⟩ l).2 k
    simp only [CS.stepAll] at ho ⊢
    rw [List.map_append, ← ih (m2 ++ m) o (by rw [ho, hm2, List.append_assoc])]
    congr 1
    rw [List.map_cons, List.map_nil, ho, lookI_append m h2]
    rfl
  refine ⟨gen roots m _ hm, fun q hq => ?_⟩
  obtain ⟨z, hz⟩ := Option.ne_none_iff_exists'.1 ((all_grows A d ⟨[], 0⟩ roots).2 q hq)
  have hz' : lookI (A.short d q) (A.final d roots).ord = some z := by rw [hm]; exact lookI_append m hz
  exact ⟨z, hz', by simp [CS.new, hz']⟩

/-- WHAT IS LEFT IS REACHED from where the roots are told to be -/
theorem reach_law (h : A.WF) (hr : ∀ k ∈ roots, A.has k) {Ψ : Int → Prop} (h0 : ∀ t ∈ A.told d roots, Ψ t)
    (h1 : ∀ y, (A.gcd d (A.final d roots)).has y → Ψ y → ∀ p ∈ (A.gcd d (A.final d roots)).ptrs y, Ψ p) {y : Int} (hy : (A.gcd d (A.final d roots)).has y) : Ψ y := by
  obtain ⟨ht, htz⟩ := told_is (d := d) h hr
  have hall := final_prop (d := d) (roots := roots) (A := A) (Φ := fun k => ∃ y, lookI k (A.final d roots).ord = some y ∧ Ψ y) ?_ ?_
  · obtain ⟨k, hk⟩ := left_of h hr hy
    obtain ⟨y', hy', hp⟩ := hall k (List.mem_map.2 ⟨_, lookI_pair hk, rfl⟩)
    rw [hk] at hy'
    cases hy'
    exact hp
  · rintro k ⟨y, hy, hp⟩ q hq
    obtain ⟨_, hB, _, _, hpt, hz⟩ := left_is h hr hy
    obtain ⟨z, hz1, hz2⟩ := hz q hq
    exact ⟨z, hz1, h1 y hB hp z (by rw [hpt]; exact List.mem_map.2 ⟨q, hq, hz2⟩)⟩
  · intro q hq
    obtain ⟨z, hz1, hz2⟩ := htz q hq
    exact ⟨z, hz1, h0 z (by rw [ht]; exact List.mem_map.2 ⟨q, hq, hz2⟩)⟩

theorem followN_tag {A : AH} : ∀ (n : Nat) (k : Int), A.followN n k = -1 ∨ A.tag (A.followN n k) ≠ 5
  | 0, k => .inl rfl
  | n + 1, k => by
    cases ho : A.find k with
    | none => left; simp [AH.followN, ho]
    | some o =>
      by_cases h5 : o.tag = 5
      · have : A.followN (n + 1) k = A.followN n (o.ptrs.getD 0 0) := by simp [AH.followN, ho, h5]
        rw [this]; exact followN_tag n _
      · have : A.followN (n + 1) k = k := by simp [AH.followN, ho, h5]
        rw [this]; right; simpa [AH.tag, ho] using h5
theorem base_rest (h : A.WF) {k : Int} (hk : A.has k) (h5 : A.tag (A.base k) = 5) : A.follow (A.base k) = -1 := by
  rcases follow_or h hk with e | ⟨e1, e2, e3⟩
  · rw [base_neg e]; exact e
  · exfalso
    rw [e2] at h5
    rcases followN_tag (A := A) (A.objs.length + 1) k with e | e
    · exact absurd e (by show ¬ A.follow k = -1; omega)
    · exact e h5
theorem short_rest (h : A.WF) : ∀ (d : Nat) {k : Int}, A.has k → A.tag (A.short d k) = 5 → A.follow (A.short d k) = -1
  | 0, k, hk, h5 => base_rest h hk h5
  | d + 1, k, hk, h5 => by
    unfold AH.short at h5 ⊢
    by_cases h6 : A.tag (A.base k) = 6
    · simp only [h6, if_true] at h5 ⊢
      obtain ⟨p, n, hp, hn, hn01⟩ := h.shaped.sel h6
      by_cases h2 : A.tag (A.short d ((A.ptrs (A.base k)).getD 0 0)) = 2
      · simp only [h2, if_true] at h5 ⊢
        refine short_rest h d ?_ h5
        obtain ⟨y, z, hy⟩ := h.shaped.con h2
        refine h.ptr_has (k := A.short d ((A.ptrs (A.base k)).getD 0 0)) ?_
        rw [hy.1, hn]
        rcases hn01 with rfl | rfl <;> simp
      · simp only [h2, if_false] at h5 ⊢
        exact base_rest h hk h5
    · simp only [h6, if_false] at h5 ⊢
      exact base_rest h hk h5
theorem short_neg (h : A.WF) {k : Int} (hk : A.has k) (hf : A.follow k = -1) : ∀ d, A.short d k = k
  | 0 => base_neg hf
  | d + 1 => by
    have h5 := (follow_nx h hk hf).1
    have hb := base_neg hf
    unfold AH.short
    rw [hb, if_neg (by rw [h5]; decide)]

theorem ring_never (h : A.WF) (hr : ∀ k ∈ roots, A.has k) : ∀ (n : Nat) {x y : Int}, A.has x → A.follow x = -1 → lookI x (A.final d roots).ord = some y → (A.gcd d (A.final d roots)).followN n y = -1
  | 0, _, _, _, _, _ => rfl
  | n + 1, x, y, hx, hf, hl => by
    obtain ⟨_, hB, htag, _, hpt, hz⟩ := left_is h hr hl
    obtain ⟨h5, hfx⟩ := follow_nx h hx hf
    have hnx := nx_has h hx
    obtain ⟨o, ho, _⟩ := AH.has_find hx
    have hs := h.shaped.find ho
    have hot : o.tag = 5 := by simpa [AH.tag, ho] using h5
    obtain ⟨z, hz1⟩ : ∃ z, o.ptrs = [z] := List.length_eq_one_iff.1 (hs.2.2.2.2.2.1 hot).1
    have hpz : A.ptrs x = [z] := by simp [AH.ptrs, ho, hz1]
    have hnz : A.nx x = z := by unfold AH.nx; rw [if_pos h5, hpz]; rfl
    rw [hnz] at hfx hnx
    obtain ⟨y', hy', hy2⟩ := hz z (by rw [hpz]; simp)
    rw [short_neg h hnx hfx d] at hy'
    rw [followN_step hB n, htag, if_pos h5]
    have hnxB : (A.gcd d (A.final d roots)).nx y = y' := by unfold AH.nx; rw [htag, if_pos h5, hpt, hpz]; simpa using hy2
    rw [hnxB]
    exact ring_never h hr n hnx hfx hy'

/-- nothing but rings only leads on in what is left -/
theorem rest_law (h : A.WF) (hr : ∀ k ∈ roots, A.has k) {y : Int} (hy : (A.gcd d (A.final d roots)).has y) (h5 : (A.gcd d (A.final d roots)).tag y = 5) : (A.gcd d (A.final d roots)).follow y = -1 := by
  obtain ⟨k, hk⟩ := left_of h hr hy
  obtain ⟨hkh, _, htag, _⟩ := left_is h hr hk
  have hall := final_prop (d := d) (roots := roots) (A := A) (Φ := fun k => A.has k ∧ (A.tag k = 5 → A.follow k = -1)) ?_ ?_
  · exact ring_never h hr _ hkh ((hall k (List.mem_map.2 ⟨_, lookI_pair hk, rfl⟩)).2 (by rw [← htag]; exact h5)) hk
  · rintro k ⟨hk, _⟩ q hq
    have hq' := h.ptr_has hq
    exact ⟨short_has h d q hq', short_rest h d hq'⟩
  · intro q hq
    exact ⟨short_has h d q (hr q hq), short_rest h d (hr q hq)⟩
end
end Go.Proofs.Ytjhdnbediipibaa
