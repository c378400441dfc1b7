import Derived.Test.YtjhdnbediipibaaE11
/-! How the document's collection lays its heap: rows that stand as they were, rows that lead on already. -/
namespace Go.Proofs.Ytjhdnbediipibaa
open Go.RowKit

/-- the row of an object, where i are done, and k pointers of the next -/
def rowOf (A : AH) (ν : Int → Int) (i k j : Nat) (p : Int × Int) : List Int :=
  if j < i then (A.ptrs p.1).map ν else if j = i then ((A.ptrs p.1).take k).map ν ++ (A.ptrs p.1).drop k else A.ptrs p.1
structure Lay (A : AH) (ν : Int → Int) (i k : Nat) (s : CS) (P : List (List Int)) : Prop where
  len : P.length = s.ord.length
  rows : ∀ j (h : j < s.ord.length), P[j]? = some (rowOf A ν i k j s.ord[j])

theorem rowOf_len (A : AH) (ν : Int → Int) (i k j : Nat) (p : Int × Int) : (rowOf A ν i k j p).length = (A.ptrs p.1).length := by
  unfold rowOf
  split
  · simp
  · split
    · rw [List.length_append, List.length_map, List.length_take, List.length_drop]; omega
    · rfl
theorem rowOf_zero (A : AH) (ν : Int → Int) (i j : Nat) (p : Int × Int) (h : ¬ j < i) : rowOf A ν i 0 j p = A.ptrs p.1 := by
  unfold rowOf
  rw [if_neg h]
  split <;> simp

theorem Lay.nil (A : AH) (ν : Int → Int) : Lay A ν 0 0 ⟨[], 0⟩ [] := ⟨rfl, fun j h => by simp at h⟩
theorem lay_used {A : AH} {s : CS} (hi : CS.Inv A s) (P : List (List Int)) : (ofP A s.ord P).used = s.used := hi.used.symm
theorem lay_objs {A : AH} {s : CS} {P : List (List Int)} (h : P.length = s.ord.length) : (ofP A s.ord P).objs.length = s.ord.length := by
  show (List.zipWith (layRow A) s.ord P).length = _
  rw [List.length_zipWith]; omega

theorem lay_add {A : AH} {s : CS} {P : List (List Int)} (hi : CS.Inv A s) (hl : P.length = s.ord.length) {a : Int} (ha : A.has a) :
    (ofP A s.ord P).add (A.tag a) (A.ptrs a) (A.nums a) = ofP A (s.put A a).ord (P ++ [A.ptrs a]) := by
  obtain ⟨e1, e2, _⟩ := ptrs_obj ha
  have hz : List.zipWith (layRow A) (s.ord ++ [(a, s.used)]) (P ++ [A.ptrs a]) = List.zipWith (layRow A) s.ord P ++ [layRow A (a, s.used) (A.ptrs a)] := by
    rw [List.zipWith_append hl.symm]; rfl
  unfold AH.add
  have hu : (ofP A s.ord P).used = s.used := lay_used hi P
  rw [hu]
  unfold ofP
  simp only [CS.put]
  rw [hz]
  congr 1
  rw [List.map_append, sumAt_append, ← hi.used]
  simp only [List.map_cons, List.map_nil, sumAt, Int.add_zero, HObj.sz, e1, e2]

theorem lay_copied {A : AH} {d : Nat} {ν : Int → Int} {i k : Nat} {s : CS} {P : List (List Int)} (h : Lay A ν i k s P) (hi : CS.Inv A s) {q : Int} (hq : A.has (A.short d q)) (hik : i < s.ord.length ∨ (i = 0 ∧ k = 0)) :
    ∃ P', (if lookI (A.short d q) s.ord = none then (ofP A s.ord P).add (A.tag (A.short d q)) (A.ptrs (A.short d q)) (A.nums (A.short d q)) else ofP A s.ord P) = ofP A (s.copied A d q).2.ord P' ∧ Lay A ν i k (s.copied A d q).2 P' := by
  cases hl : lookI (A.short d q) s.ord with
  | some n =>
    have e : s.copied A d q = (n, s) := by simp [CS.copied, hl]
    exact ⟨P, by rw [if_neg (by simp), e], by rw [e]; exact h⟩
  | none =>
    have e : s.copied A d q = (s.used, s.put A (A.short d q)) := by simp [CS.copied, hl]
    refine ⟨P ++ [A.ptrs (A.short d q)], by rw [if_pos rfl, e]; exact lay_add hi h.len hq, ?_⟩
    rw [e]
    refine ⟨by simp [CS.put, h.len], fun j hj => ?_⟩
    have hj' : j < s.ord.length + 1 := by simpa [CS.put] using hj
    by_cases hjl : j < s.ord.length
    · rw [List.getElem?_append_left (by rw [h.len]; exact hjl), h.rows j hjl]
      congr 2
      simp only [CS.put]
      rw [List.getElem_append_left hjl]
    · obtain rfl : j = s.ord.length := by omega
      rw [List.getElem?_append_right (by rw [h.len]; omega)]
      simp only [CS.put, h.len, Nat.sub_self]
      rw [List.getElem_append_right (by omega)]
      simp only [Nat.sub_self, List.getElem_cons_zero, List.getElem?_cons_zero]
      unfold rowOf
      by_cases hji : s.ord.length < i
      · omega
      · rw [if_neg hji]
        split
        · rename_i e
          rcases hik with h | h
          · omega
          · rw [h.2]; simp
        · rfl
theorem set_mid (ν : Int → Int) (l : List Int) (k : Nat) (hk : k < l.length) : ((l.take k).map ν ++ l.drop k).set k (ν l[k]) = (l.take (k + 1)).map ν ++ l.drop (k + 1) := by
  have e1 : ((l.take k).map ν).length = k := by rw [List.length_map, List.length_take]; omega
  rw [List.set_append_right _ _ (by omega), e1, Nat.sub_self, List.drop_eq_getElem_cons hk, List.set_cons_zero, List.take_succ_eq_append_getElem hk, List.map_append]
  simp
theorem Lay.store {A : AH} {ν : Int → Int} {i k : Nat} {s : CS} {P : List (List Int)} (h : Lay A ν i k s P) (hi : i < s.ord.length) (hk : k < (A.ptrs s.ord[i].1).length) (r : List Int) (hr : P[i]? = some r) :
    Lay A ν i (k + 1) s (P.set i (r.set k (ν (A.ptrs s.ord[i].1)[k]))) ∧ r[k]? = some (A.ptrs s.ord[i].1)[k] ∧ r.length = (A.ptrs s.ord[i].1).length := by
  have h1 := h.rows i hi
  rw [hr] at h1
  have hre : r = ((A.ptrs s.ord[i].1).take k).map ν ++ (A.ptrs s.ord[i].1).drop k := by
    have := Option.some.inj h1
    rw [this]; unfold rowOf; rw [if_neg (by omega), if_pos rfl]
  have e1 : (((A.ptrs s.ord[i].1).take k).map ν).length = k := by rw [List.length_map, List.length_take]; omega
  refine ⟨⟨by rw [List.length_set]; exact h.len, fun j hj => ?_⟩, ?_, ?_⟩
  · by_cases e : j = i
    · subst e
      rw [List.getElem?_set_self (by rw [h.len]; exact hi), hre, set_mid ν _ k hk]
      unfold rowOf
      rw [if_neg (by omega), if_pos rfl]
    · rw [List.getElem?_set_ne (fun q => e q.symm), h.rows j hj]
      unfold rowOf
      by_cases hji : j < i
      · rw [if_pos hji, if_pos hji]
      · rw [if_neg hji, if_neg hji, if_neg e, if_neg e]
  · rw [hre, List.getElem?_append_right (by omega), e1, Nat.sub_self, List.drop_eq_getElem_cons hk]; rfl
  · rw [hre, List.length_append, e1, List.length_drop]; omega
theorem Lay.next {A : AH} {ν : Int → Int} {i k : Nat} {s : CS} {P : List (List Int)} (h : Lay A ν i k s P) (hi : i < s.ord.length) (hk : ¬ k < (A.ptrs s.ord[i].1).length) : Lay A ν (i + 1) 0 s P := by
  refine ⟨h.len, fun j hj => ?_⟩
  rw [h.rows j hj]
  unfold rowOf
  by_cases hji : j < i
  · rw [if_pos hji, if_pos (by omega)]
  · rw [if_neg hji]
    by_cases e : j = i
    · subst e
      rw [if_pos rfl, if_pos (by omega), List.take_of_length_le (by omega), List.drop_eq_nil_of_le (by omega), List.append_nil]
    · rw [if_neg e, if_neg (by omega)]
      split <;> simp
theorem Lay.done {A : AH} {d : Nat} {i : Nat} {s : CS} {P : List (List Int)} (h : Lay A (s.new A d) i 0 s P) (hi : ¬ i < s.ord.length) : ofP A s.ord P = A.gcd d s := by
  unfold AH.gcd
  congr 1
  apply List.ext_getElem?
  intro j
  by_cases hj : j < s.ord.length
  · rw [h.rows j hj, List.getElem?_map, List.getElem?_eq_getElem hj]
    unfold rowOf
    rw [if_pos (by omega)]; rfl
  · rw [List.getElem?_eq_none (by rw [h.len]; omega), List.getElem?_eq_none (by rw [List.length_map]; omega)]

/-- a part ahead, whatever comes behind -/
theorem all_more (A : AH) (d : Nat) (s : CS) (l1 l2 : List Int) : ∃ m, (s.all A d (l1 ++ l2)).2.ord = (s.all A d l1).2.ord ++ m := by
  refine snoc_ind (P := fun l2 => ∃ m, (s.all A d (l1 ++ l2)).2.ord = (s.all A d l1).2.ord ++ m) ⟨[], by simp⟩ (fun l k ih => ?_) l2
  obtain ⟨m, hm⟩ := ih
  rw [← List.append_assoc, CS.all_snoc]
  simp only [CS.stepAll]
  obtain ⟨⟨m2, hm2⟩, _⟩ := copied_grows A d (s.all A d (l1 ++ l)).2 k
  exact ⟨m ++ m2, by rw [hm2, hm, List.append_assoc]⟩
theorem copied_twice (A : AH) (d : Nat) (s : CS) (q : Int) : CS.copied A d (s.copied A d q).2 q = ((s.copied A d q).1, (s.copied A d q).2) ∧ lookI (A.short d q) (s.copied A d q).2.ord ≠ none := by
  have h := (copied_grows A d s q).2
  exact ⟨by unfold CS.copied at h ⊢; rw [h], by rw [h]; simp⟩
end Go.Proofs.Ytjhdnbediipibaa
