import Derived.Test.YtjhdnbediipibaaA9
/-! Plain: heaps that are well made; what a copier keeps. -/
namespace Go.Proofs.Ytjhdnbediipibaa

def HObj.sz (o : HObj) : Int := osz o.ptrs o.nums
theorem osz_ge (p n : List Int) : 2 ≤ osz p n := by unfold osz; omega
theorem HObj.sz_ge (o : HObj) : 2 ≤ o.sz := osz_ge _ _

def sumSz : List (Int × HObj) → Int
  | [] => 0
  | p :: r => p.2.sz + sumSz r
theorem sumSz_append (a b : List (Int × HObj)) : sumSz (a ++ b) = sumSz a + sumSz b := by
  induction a with
  | nil => simp [sumSz]
  | cons p r ih => simp only [List.cons_append, sumSz, ih]; omega
theorem sumSz_ge (a : List (Int × HObj)) : 2 * (a.length : Int) ≤ sumSz a := by
  induction a with
  | nil => simp [sumSz]
  | cons p r ih => have := p.2.sz_ge; simp only [sumSz, List.length_cons]; omega

/-- a heap that is well made -/
structure AH.WF (A : AH) : Prop where
  shaped : A.Shaped
  closed : ∀ p ∈ A.objs, ∀ q ∈ p.2.ptrs, A.has q
  keys : (A.objs.map (·.1)).Pairwise (· < ·)
  range : ∀ p ∈ A.objs, 0 ≤ p.1 ∧ p.1 < A.used
  sum : sumSz A.objs ≤ A.used
  uw : A.used ≤ A.words
  w0 : A.words ≤ 1000000

theorem lookO_none {k : Int} : ∀ {l : List (Int × HObj)}, lookO k l = none ↔ k ∉ l.map (·.1)
  | [] => by simp [lookO]
  | p :: r => by
    unfold lookO
    split
    · rename_i h; simp [h]
    · rename_i h; rw [lookO_none]; simp only [List.map_cons, List.mem_cons, not_or]; exact ⟨fun h2 => ⟨h, h2⟩, fun h2 => h2.2⟩
theorem has_iff {A : AH} {k : Int} : A.has k ↔ k ∈ A.objs.map (·.1) := by
  unfold AH.has AH.find
  rw [Ne, lookO_none]
  exact Classical.not_not
theorem lookO_of_mem {k : Int} {o : HObj} : ∀ {l : List (Int × HObj)}, (l.map (·.1)).Nodup → (k, o) ∈ l → lookO k l = some o
  | [], _, h => by simp at h
  | p :: r, hn, h => by
    simp only [List.map_cons, List.nodup_cons] at hn
    unfold lookO
    rcases List.mem_cons.1 h with rfl | h
    · simp
    · have : k ≠ p.1 := fun e => hn.1 (by rw [← e]; exact List.mem_map.2 ⟨_, h, rfl⟩)
      rw [if_neg this]
      exact lookO_of_mem hn.2 h
theorem AH.WF.nodup {A : AH} (h : A.WF) : (A.objs.map (·.1)).Nodup := h.keys.imp (fun h => by omega)
theorem AH.WF.u0 {A : AH} (h : A.WF) : 0 ≤ A.used := by
  have := sumSz_ge A.objs
  have := h.sum
  omega
theorem AH.WF.len {A : AH} (h : A.WF) : (A.objs.length : Int) ≤ 500000 := by
  have := sumSz_ge A.objs
  have := h.sum
  have := h.uw
  have := h.w0
  omega
theorem AH.WF.fine {A : AH} (h : A.WF) : A.Fine := by
  refine ⟨h.u0, h.uw, h.w0, ?_, by have := h.len; omega⟩
  unfold AH.find
  rw [lookO_none]
  intro hm
  obtain ⟨p, hp, e⟩ := List.mem_map.1 hm
  have := (h.range p hp).2
  omega
theorem AH.WF.ge0 {A : AH} (h : A.WF) {k : Int} (hk : A.has k) : 0 ≤ k := by
  rw [has_iff] at hk
  obtain ⟨p, hp, rfl⟩ := List.mem_map.1 hk
  exact (h.range p hp).1
theorem AH.has_find {A : AH} {k : Int} (hk : A.has k) : ∃ o, A.find k = some o ∧ (k, o) ∈ A.objs := by
  unfold AH.has at hk
  cases hf : A.find k with
  | none => exact absurd hf hk
  | some o => exact ⟨o, rfl, lookO_mem hf⟩
theorem AH.WF.ptr_has {A : AH} (h : A.WF) {k q : Int} (hq : q ∈ A.ptrs k) : A.has q := by
  unfold AH.ptrs at hq
  cases hf : A.find k with
  | none => rw [hf] at hq; simp at hq
  | some o => rw [hf] at hq; exact h.closed _ (lookO_mem hf) q (by simpa using hq)

theorem followN_has {A : AH} : ∀ (n : Nat) (k : Int), A.followN n k = -1 ∨ A.has (A.followN n k)
  | 0, _ => .inl rfl
  | n + 1, k => by
    unfold AH.followN
    cases hf : A.find k with
    | none => exact .inl rfl
    | some o =>
      simp only []
      split
      · exact followN_has n _
      · exact .inr (by unfold AH.has; rw [hf]; simp)
theorem base_has {A : AH} {k : Int} (hk : A.has k) : A.has (A.base k) := by
  unfold AH.base
  split
  · rename_i h
    rcases followN_has (A.objs.length + 1) k with e | e
    · exfalso; unfold AH.follow at h; rw [e] at h; omega
    · exact e
  · exact hk
theorem short_has {A : AH} (h : A.WF) : ∀ (d : Nat) (k : Int), A.has k → A.has (A.short d k)
  | 0, k, hk => base_has hk
  | d + 1, k, hk => by
    simp only [AH.short]
    split
    · rename_i h6
      obtain ⟨p, n, hp, hn, hn01⟩ := h.shaped.sel h6
      have hpp : A.has p := h.ptr_has (k := A.base k) (by rw [hp]; simp)
      rw [hp, hn]
      simp only [List.getD_cons_zero]
      split
      · rename_i h2
        obtain ⟨y, z, hyz, _⟩ := h.shaped.con h2
        refine short_has h d _ ?_
        rw [hyz]
        refine h.ptr_has (k := A.short d p) ?_
        rw [hyz]
        rcases hn01 with rfl | rfl <;> simp
      · exact base_has hk
    · exact base_has hk

/-! what a copier keeps -/
def sumAt (A : AH) : List Int → Int
  | [] => 0
  | k :: r => (A.obj k).sz + sumAt A r

structure CS.Inv (A : AH) (s : CS) : Prop where
  nodup : (s.ord.map (·.1)).Nodup
  has : ∀ k ∈ s.ord.map (·.1), A.has k
  used : s.used = sumAt A (s.ord.map (·.1))

theorem sumAt_append (A : AH) (a b : List Int) : sumAt A (a ++ b) = sumAt A a + sumAt A b := by
  induction a with
  | nil => simp [sumAt]
  | cons p r ih => simp only [List.cons_append, sumAt, ih]; omega
theorem sumAt_ge (A : AH) (l : List Int) : 2 * (l.length : Int) ≤ sumAt A l := by
  induction l with
  | nil => simp [sumAt]
  | cons p r ih => have := (A.obj p).sz_ge; simp only [sumAt, List.length_cons]; omega
theorem sumAt_erase (A : AH) {k : Int} : ∀ {l : List Int}, k ∈ l → sumAt A l = (A.obj k).sz + sumAt A (l.erase k)
  | [], h => by simp at h
  | x :: r, h => by
    by_cases e : x = k
    · subst e; simp [sumAt]
    · have hk : k ∈ r := by rcases List.mem_cons.1 h with rfl | h; exact absurd rfl e; exact h
      rw [List.erase_cons_tail (by simpa using e)]
      simp only [sumAt]
      rw [sumAt_erase A hk]; omega
theorem sumAt_sub (A : AH) : ∀ (l m : List Int), l.Nodup → (∀ k ∈ l, k ∈ m) → sumAt A l ≤ sumAt A m
  | [], m, _, _ => by have := sumAt_ge A m; simp only [sumAt]; omega
  | k :: r, m, hn, hs => by
    rw [sumAt_erase A (hs k (by simp))]
    simp only [sumAt]
    have hn' := List.nodup_cons.1 hn
    have := sumAt_sub A r (m.erase k) hn'.2 (fun q hq => (List.mem_erase_of_ne (fun e => hn'.1 (by rw [← e]; exact hq))).2 (hs q (by simp [hq])))
    omega
theorem obj_mem {A : AH} (h : A.WF) {p : Int × HObj} (hp : p ∈ A.objs) : A.obj p.1 = p.2 := by
  unfold AH.obj AH.find
  rw [lookO_of_mem h.nodup (show (p.1, p.2) ∈ A.objs from hp)]; rfl
theorem sumAt_all {A : AH} (h : A.WF) : sumAt A (A.objs.map (·.1)) = sumSz A.objs := by
  have : ∀ l : List (Int × HObj), (∀ p ∈ l, p ∈ A.objs) → sumAt A (l.map (·.1)) = sumSz l := by
    intro l
    induction l with
    | nil => intro _; rfl
    | cons p r ih =>
      intro hl
      simp only [List.map_cons, sumAt, sumSz]
      rw [obj_mem h (hl p (by simp)), ih (fun q hq => hl q (by simp [hq]))]
  exact this _ (fun _ h => h)
theorem CS.Inv.le {A : AH} (h : A.WF) {s : CS} (i : CS.Inv A s) : 0 ≤ s.used ∧ s.used ≤ A.used ∧ 2 * (s.ord.length : Int) ≤ s.used := by
  have h1 := sumAt_sub A (s.ord.map (·.1)) (A.objs.map (·.1)) i.nodup (fun k hk => has_iff.1 (i.has k hk))
  rw [sumAt_all h, ← i.used] at h1
  have h2 := sumAt_ge A (s.ord.map (·.1))
  rw [← i.used] at h2
  have h3 := h.sum
  simp at h2
  omega
theorem lookI_none {k : Int} : ∀ {l : List (Int × Int)}, lookI k l = none ↔ k ∉ l.map (·.1)
  | [] => by simp [lookI]
  | p :: r => by
    unfold lookI
    split
    · rename_i h; simp [h]
    · rename_i h; rw [lookI_none]; simp only [List.map_cons, List.mem_cons, not_or]; exact ⟨fun h2 => ⟨h, h2⟩, fun h2 => h2.2⟩
theorem ptrs_obj {A : AH} {k : Int} (hk : A.has k) : A.ptrs k = (A.obj k).ptrs ∧ A.nums k = (A.obj k).nums ∧ A.tag k = (A.obj k).tag := by
  obtain ⟨o, ho, _⟩ := AH.has_find hk
  simp [AH.ptrs, AH.nums, AH.tag, AH.obj, ho]
theorem CS.Inv.nil (A : AH) : CS.Inv A ⟨[], 0⟩ := ⟨by simp, by simp, rfl⟩
theorem CS.Inv.copied {A : AH} (h : A.WF) {s : CS} (i : CS.Inv A s) (d : Nat) {k : Int} (hk : A.has k) : CS.Inv A (s.copied A d k).2 := by
  unfold CS.copied
  have hs := short_has h d k hk
  cases hl : lookI (A.short d k) s.ord with
  | some n => exact i
  | none =>
    obtain ⟨e1, e2, _⟩ := ptrs_obj hs
    refine ⟨?_, ?_, ?_⟩
    · simp only [CS.put, List.map_append, List.map_cons, List.map_nil]
      rw [List.nodup_append]
      refine ⟨i.nodup, by simp, fun a ha b hb e => ?_⟩
      simp at hb
      subst e hb
      exact lookI_none.1 hl ha
    · intro q hq
      simp only [CS.put, List.map_append, List.map_cons, List.map_nil, List.mem_append, List.mem_singleton] at hq
      rcases hq with hq | rfl
      · exact i.has q hq
      · exact hs
    · simp only [CS.put, List.map_append, List.map_cons, List.map_nil, sumAt_append, sumAt, ← i.used, e1, e2, HObj.sz]
      omega

theorem snoc_ind {α : Type} {P : List α → Prop} (h0 : P []) (h1 : ∀ l a, P l → P (l ++ [a])) (l : List α) : P l := by
  have : ∀ m : List α, P m.reverse := by
    intro m
    induction m with
    | nil => exact h0
    | cons a r ih => rw [List.reverse_cons]; exact h1 _ _ ih
  have h := this l.reverse
  rwa [List.reverse_reverse] at h

/-- some are copied, one behind the other -/
def CS.stepAll (A : AH) (d : Nat) (q : List Int × CS) (k : Int) : List Int × CS := (q.1 ++ [(q.2.copied A d k).1], (q.2.copied A d k).2)
def CS.all (A : AH) (d : Nat) (s : CS) (l : List Int) : List Int × CS := l.foldl (CS.stepAll A d) ([], s)
theorem CS.all_snoc (A : AH) (d : Nat) (s : CS) (l : List Int) (k : Int) : s.all A d (l ++ [k]) = CS.stepAll A d (s.all A d l) k := by simp [CS.all, List.foldl_append]
theorem CS.all_len (A : AH) (d : Nat) (s : CS) (l : List Int) : (s.all A d l).1.length = l.length := by
  refine snoc_ind (P := fun l => (s.all A d l).1.length = l.length) rfl (fun l k ih => ?_) l
  rw [CS.all_snoc]; simp [CS.stepAll, ih]
theorem CS.Inv.all {A : AH} (h : A.WF) {s : CS} (i : CS.Inv A s) (d : Nat) (l : List Int) (hl : ∀ k ∈ l, A.has k) : CS.Inv A (s.all A d l).2 := by
  refine snoc_ind (P := fun l => (∀ k ∈ l, A.has k) → CS.Inv A (s.all A d l).2) (fun _ => i) (fun l k ih hl => ?_) l hl
  rw [CS.all_snoc]
  exact (ih (fun q hq => hl q (by simp [hq]))).copied h d (hl k (by simp))
end Go.Proofs.Ytjhdnbediipibaa
