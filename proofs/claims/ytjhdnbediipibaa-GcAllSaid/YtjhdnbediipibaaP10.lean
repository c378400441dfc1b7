import Derived.Test.YtjhdnbediipibaaP8
/-! Where what only leads on leads to, in a heap and in what is left of it. -/
namespace Go.Proofs.Ytjhdnbediipibaa
open Go.RowKit

/-- one step on -/
def AH.nx (A : AH) (k : Int) : Int := if A.tag k = 5 then (A.ptrs k).getD 0 0 else k
def AH.it (A : AH) : Nat → Int → Int
  | 0, k => k
  | n + 1, k => A.it n (A.nx k)
theorem it_add (A : AH) : ∀ (m n : Nat) (k : Int), A.it (m + n) k = A.it n (A.it m k)
  | 0, n, k => by rw [Nat.zero_add]; rfl
  | m + 1, n, k => by rw [show m + 1 + n = (m + n) + 1 from by omega]; exact it_add A m n (A.nx k)
theorem nx_has {A : AH} (h : A.WF) {k : Int} (hk : A.has k) : A.has (A.nx k) := by
  unfold AH.nx
  split
  · rename_i h5
    obtain ⟨o, ho, hm⟩ := AH.has_find hk
    have hs := h.shaped.find ho
    have ht : o.tag = 5 := by simpa [AH.tag, ho] using h5
    obtain ⟨z, hz⟩ : ∃ z, o.ptrs = [z] := List.length_eq_one_iff.1 (hs.2.2.2.2.2.1 ht).1
    have hp : A.ptrs k = [z] := by simp [AH.ptrs, ho, hz]
    rw [hp]
    exact h.ptr_has (k := k) (by rw [hp]; simp)
  · exact hk
theorem it_has {A : AH} (h : A.WF) : ∀ (n : Nat) {k : Int}, A.has k → A.has (A.it n k)
  | 0, _, hk => hk
  | n + 1, _, hk => it_has h n (nx_has h hk)

theorem followN_step {A : AH} {k : Int} (hk : A.has k) (n : Nat) : A.followN (n + 1) k = if A.tag k = 5 then A.followN n (A.nx k) else k := by
  obtain ⟨o, ho, _⟩ := AH.has_find hk
  have ht : A.tag k = o.tag := by simp [AH.tag, ho]
  have hp : A.ptrs k = o.ptrs := by simp [AH.ptrs, ho]
  unfold AH.nx
  simp only [AH.followN, ho, ht, hp]
  split
  · rfl
  · rfl
/-- it leads nowhere, as far as one looks -/
theorem followN_neg {A : AH} (h : A.WF) : ∀ (n : Nat) {k : Int}, A.has k → (A.followN n k = -1 ↔ ∀ i, i < n → A.tag (A.it i k) = 5)
  | 0, k, hk => ⟨fun _ i hi => by omega, fun _ => rfl⟩
  | n + 1, k, hk => by
    rw [followN_step hk]
    by_cases h5 : A.tag k = 5
    · rw [if_pos h5, followN_neg h n (nx_has h hk)]
      constructor
      · intro hh i hi
        cases i with
        | zero => exact h5
        | succ i => exact hh i (by omega)
      · intro hh i hi
        exact hh (i + 1) (by omega)
    · rw [if_neg h5]
      constructor
      · intro e; have := h.ge0 hk; omega
      · intro hh; exact absurd (hh 0 (by omega)) h5
/-- .. and for ever -/
theorem never {A : AH} (h : A.WF) {k : Int} (hk : A.has k) (hf : A.follow k = -1) : ∀ i, A.tag (A.it i k) = 5 := by
  have h0 := (followN_neg h _ hk).1 hf
  obtain ⟨i, j, hij, hj, he⟩ : ∃ i j, i < j ∧ j ≤ A.objs.length ∧ A.it i k = A.it j k := by
    apply Classical.byContradiction
    intro hno
    have hnd : ((List.range (A.objs.length + 1)).map fun i => A.it i k).Nodup := by
      rw [List.nodup_iff_pairwise_ne, List.pairwise_map]
      refine List.Pairwise.imp_of_mem (R := (· < ·)) (fun {a b} ha hb hab e => hno ⟨a, b, hab, ?_, e⟩) List.pairwise_lt_range
      have := List.mem_range.1 hb
      omega
    have := len_sub _ (A.objs.map (·.1)) hnd (fun x hx => by
      obtain ⟨i, _, rfl⟩ := List.mem_map.1 hx
      exact has_iff.1 (it_has h i hk))
    simp at this; omega
  intro n
  induction n using Nat.strongRecOn with
  | _ n ih =>
    by_cases hn : n < A.objs.length + 1
    · exact h0 n hn
    · have e : A.it n k = A.it (n - (j - i)) k := by
        have e1 : A.it n k = A.it (n - j) (A.it j k) := by rw [← it_add]; congr 1; omega
        have e2 : A.it (n - (j - i)) k = A.it (n - j) (A.it i k) := by rw [← it_add]; congr 1; omega
        rw [e1, e2, he]
      rw [e]
      exact ih _ (by omega)
theorem follow_nx {A : AH} (h : A.WF) {k : Int} (hk : A.has k) (hf : A.follow k = -1) : A.tag k = 5 ∧ A.follow (A.nx k) = -1 := by
  have hn := never h hk hf
  exact ⟨hn 0, (followN_neg h _ (nx_has h hk)).2 (fun i _ => hn (i + 1))⟩
theorem follow_or {A : AH} (h : A.WF) {k : Int} (_hk : A.has k) : A.follow k = -1 ∨ (0 ≤ A.follow k ∧ A.base k = A.follow k ∧ A.has (A.follow k)) := by
  rcases followN_has (A := A) (A.objs.length + 1) k with e | e
  · exact .inl e
  · have h0 : 0 ≤ A.follow k := h.ge0 e
    exact .inr ⟨h0, by unfold AH.base; rw [if_pos h0], e⟩
theorem base_neg {A : AH} {k : Int} (hf : A.follow k = -1) : A.base k = k := by unfold AH.base; rw [if_neg (by omega)]

theorem lookI_pair {k n : Int} : ∀ {l : List (Int × Int)}, lookI k l = some n → (k, n) ∈ l
  | [], h => by simp [lookI] at h
  | p :: r, h => by
    unfold lookI at h
    split at h
    · rename_i e; cases h; subst e; simp
    · exact List.mem_cons_of_mem _ (lookI_pair h)

/-- what goes in step: an address of the heap, and where it is now -/
def Pair (A : AH) (s : CS) (x y : Int) : Prop := A.has x ∧ lookI (A.base x) s.ord = some y

section
variable {A : AH} {roots : List Int}
theorem gcd_never (h : A.WF) (hr : ∀ k ∈ roots, A.has k) : ∀ (n : Nat) {x y : Int}, A.has x → A.follow x = -1 → lookI x (A.final 0 roots).ord = some y → (A.gcd 0 (A.final 0 roots)).followN n y = -1
  | 0, _, _, _, _, _ => rfl
  | n + 1, x, y, hx, hf, hl => by
    obtain ⟨hi, ha, hc, _⟩ := final_inv h 0 hr
    have hp := lookI_pair hl
    have hfind := gcd_find (d := 0) h hi ha hp
    obtain ⟨h5, hfx⟩ := follow_nx h hx hf
    have hnx := nx_has h hx
    obtain ⟨o, ho, _⟩ := AH.has_find hx
    have hs := h.shaped.find ho
    have hot : o.tag = 5 := by simpa [AH.tag, ho] using h5
    obtain ⟨z, hz⟩ : ∃ z, o.ptrs = [z] := List.length_eq_one_iff.1 (hs.2.2.2.2.2.1 hot).1
    have hpz : A.ptrs x = [z] := by simp [AH.ptrs, ho, hz]
    have hnz : A.nx x = z := by unfold AH.nx; rw [if_pos h5, hpz]; rfl
    rw [hnz] at hfx hnx
    have hlz : lookI (A.short 0 z) (A.final 0 roots).ord ≠ none := hc _ hp z (by rw [hpz]; simp)
    have hb : A.short 0 z = z := base_neg hfx
    rw [hb] at hlz
    obtain ⟨y', hy'⟩ := Option.ne_none_iff_exists'.1 hlz
    simp only [AH.followN, hfind, h5, if_true]
    have hrow : (A.final 0 roots).row A 0 (x, y) = [y'] := by simp [CS.row, hpz, CS.new, hb, hy']
    rw [hrow]
    exact gcd_never h hr n hnx hfx hy'

theorem pair_neg (h : A.WF) (hr : ∀ k ∈ roots, A.has k) {x y : Int} (hp : Pair A (A.final 0 roots) x y) (hf : A.follow x = -1) : (A.gcd 0 (A.final 0 roots)).follow y = -1 := by
  have hl := hp.2
  rw [base_neg hf] at hl
  exact gcd_never h hr _ hp.1 hf hl
theorem pair_pos (h : A.WF) (hr : ∀ k ∈ roots, A.has k) {x y : Int} (hp : Pair A (A.final 0 roots) x y) (hf : 0 ≤ A.follow x) :
    A.has (A.follow x) ∧ (A.gcd 0 (A.final 0 roots)).tag y = A.tag (A.follow x) ∧ (A.gcd 0 (A.final 0 roots)).nums y = A.nums (A.follow x) ∧
      ∃ q, (A.gcd 0 (A.final 0 roots)).ptrs y = q ∧ q.length = (A.ptrs (A.follow x)).length ∧ ∀ p ∈ (A.ptrs (A.follow x)).zip q, Pair A (A.final 0 roots) p.1 p.2 := by
  obtain ⟨hi, ha, hc, _⟩ := final_inv h 0 hr
  obtain ⟨hx, hl⟩ := hp
  rcases follow_or h hx with e | ⟨_, hb, hh⟩
  · omega
  · rw [hb] at hl
    have hpm := lookI_pair hl
    have hfind := gcd_find (d := 0) h hi ha hpm
    simp only at hfind
    refine ⟨hh, by simp [AH.tag, hfind], by simp [AH.nums, hfind], _, rfl, ?_, ?_⟩
    · simp [AH.ptrs, hfind, CS.row]
    · have hq : (A.gcd 0 (A.final 0 roots)).ptrs y = (A.ptrs (A.follow x)).map ((A.final 0 roots).new A 0) := by simp [AH.ptrs, hfind, CS.row]
      rw [hq]
      intro p hpz
      rw [List.zip_map_right, List.mem_map] at hpz
      obtain ⟨⟨a, b⟩, hab, rfl⟩ := hpz
      have hab2 : a = b ∧ a ∈ A.ptrs (A.follow x) := by
        have gen : ∀ l : List Int, (a, b) ∈ l.zip l → a = b ∧ a ∈ l := by
          intro l
          induction l with
          | nil => intro h; simp at h
          | cons y r ih =>
            intro h
            rw [List.zip_cons_cons, List.mem_cons] at h
            rcases h with h | h
            · cases h; exact ⟨rfl, by simp⟩
            · obtain ⟨h1, h2⟩ := ih h; exact ⟨h1, by simp [h2]⟩
        exact gen _ hab
      obtain ⟨rfl, ham⟩ := hab2
      have hne := hc _ hpm a ham
      obtain ⟨y', hy'⟩ := Option.ne_none_iff_exists'.1 hne
      refine ⟨h.ptr_has ham, ?_⟩
      show lookI (A.base a) _ = some ((A.final 0 roots).new A 0 a)
      unfold CS.new
      rw [hy']
      exact hy'
theorem told_pairs (h : A.WF) (hr : ∀ k ∈ roots, A.has k) : (A.told 0 roots).length = roots.length ∧ ∀ p ∈ roots.zip (A.told 0 roots), Pair A (A.final 0 roots) p.1 p.2 := by
  obtain ⟨_, _, _, m, hm⟩ := final_inv h 0 hr
  have gen : ∀ l : List Int, (∀ k ∈ l, A.has k) → ∀ p ∈ l.zip (CS.all A 0 ⟨[], 0⟩ l).1, A.has p.1 ∧ lookI (A.base p.1) (CS.all A 0 ⟨[], 0⟩ l).2.ord = some p.2 := by
    intro l
    refine snoc_ind (P := fun l => (∀ k ∈ l, A.has k) → ∀ p ∈ l.zip (CS.all A 0 ⟨[], 0⟩ l).1, A.has p.1 ∧ lookI (A.base p.1) (CS.all A 0 ⟨[], 0⟩ l).2.ord = some p.2) (fun _ p hp => by simp at hp) (fun l k ih hl => ?_) l
    intro p hp
    have hlen := CS.all_len A 0 ⟨[], 0⟩ l
    rw [CS.all_snoc] at hp ⊢
    obtain ⟨⟨m2, hm2⟩, h2⟩ := copied_grows A 0 (CS.all A 0 ⟨[], 0⟩ l).2 k
    simp only [CS.stepAll] at hp ⊢
    rw [List.zip_append (by rw [hlen])] at hp
    rcases List.mem_append.1 hp with hp | hp
    · obtain ⟨h3, h4⟩ := ih (fun q hq => hl q (by simp [hq])) p hp
      exact ⟨h3, by rw [hm2]; exact lookI_append m2 h4⟩
    · simp at hp
      subst hp
      exact ⟨hl k (by simp), h2⟩
  refine ⟨CS.all_len A 0 ⟨[], 0⟩ roots, fun p hp => ?_⟩
  obtain ⟨h1, h2⟩ := gen roots hr p hp
  exact ⟨h1, by rw [hm]; exact lookI_append m h2⟩
end
end Go.Proofs.Ytjhdnbediipibaa
