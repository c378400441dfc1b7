import Derived.Test.YtjhdnbediipibaaK7
import Derived.BigRegion
/-! What only leads on, in a row, in a ring: the law. -/
namespace Go.Proofs.Ytjhdnbediipibaa
open Go.RowKit

/-- so many thunks -/
def Thunks (k : Nat) (A : AH) : Prop := A.WF ∧ A.used = 2 * k ∧ A.words = 100 ∧ ∀ j : Nat, j < k → A.find (2 * (j : Int)) = some ⟨4, [], [(j : Int)]⟩
theorem thunks_zero : Thunks 0 ⟨[], 0, 100⟩ := ⟨WF_new 100 (by omega) (by omega), rfl, rfl, fun j h => by omega⟩
theorem thunks_ok {k : Nat} {A : AH} (h : Thunks k A) (hk : k < 50) : A.AllocOk 4 [] [(k : Int)] := by
  refine ⟨⟨by decide, by decide, by simp, by simp, fun e => by simp at e, fun e => by simp at e, fun e => by simp at e⟩, by simp, ?_⟩
  rw [h.2.1, h.2.2.1]
  simp [osz]; omega
theorem thunks_add {k : Nat} {A : AH} (h : Thunks k A) (hk : k < 50) : Thunks (k + 1) (A.add 4 [] [(k : Int)]) := by
  refine ⟨WF_add h.1 (thunks_ok h hk), ?_, h.2.2.1, fun j hj => ?_⟩
  · show A.used + osz [] [(k : Int)] = _
    rw [h.2.1]; simp [osz]; omega
  · by_cases e : j = k
    · subst e
      rw [← h.2.1]; exact find_newest h.1 _ _ _
    · have hf := h.2.2.2 j (by omega)
      rw [find_old (show A.has (2 * (j : Int)) from by unfold AH.has; rw [hf]; simp)]
      exact hf

/-- their addresses, in some order -/
structure Mixed (k : Nat) (L : List Int) : Prop where
  len : L.length = k
  nodup : L.Nodup
  mem : ∀ x ∈ L, ∃ j : Nat, j < k ∧ x = 2 * (j : Int)
theorem Mixed.start (k : Nat) : Mixed k (evens k) := by
  refine ⟨evens_len k, ?_, fun x hx => ?_⟩
  · unfold evens
    rw [List.nodup_iff_pairwise_ne, List.pairwise_map]
    exact List.Pairwise.imp (R := (· < ·)) (fun {a b} h e => by have h2 : a < b := h; omega) List.pairwise_lt_range
  · unfold evens at hx
    obtain ⟨j, hj, rfl⟩ := List.mem_map.1 hx
    exact ⟨j, by simpa using hj, rfl⟩
theorem swap_at {L : List Int} {i j : Nat} (hi : i < L.length) (hj : j < L.length) (t : Nat) (ht : t < ((L.set i L[j]).set j L[i]).length) :
    ∃ (h : (if t = j then i else if t = i then j else t) < L.length), ((L.set i L[j]).set j L[i])[t] = L[if t = j then i else if t = i then j else t] := by
  rw [List.length_set, List.length_set] at ht
  refine ⟨by split; · exact hi
             · split; · exact hj
               · exact ht, ?_⟩
  rw [List.getElem_set]
  by_cases e : j = t
  · subst e; simp
  · rw [if_neg e, List.getElem_set]
    have e' : ¬ t = j := fun h => e h.symm
    by_cases f : i = t
    · subst f; simp [e']
    · have f' : ¬ t = i := fun h => f h.symm
      simp [e', f, f']
theorem Mixed.swap {k : Nat} {L : List Int} (h : Mixed k L) {i j : Nat} (hi : i < L.length) (hj : j < L.length) : Mixed k ((L.set i L[j]).set j L[i]) := by
  refine ⟨by simp [h.len], ?_, fun x hx => ?_⟩
  · rw [List.nodup_iff_pairwise_ne, List.pairwise_iff_getElem]
    intro a b ha hb hab e
    obtain ⟨pa, qa⟩ := swap_at hi hj a ha
    obtain ⟨pb, qb⟩ := swap_at hi hj b hb
    rw [qa, qb] at e
    have := (List.getElem_inj h.nodup).1 e
    split at this <;> split at this <;> (try split at this) <;> (try split at this) <;> omega
  · obtain ⟨t, ht, rfl⟩ := List.mem_iff_getElem.1 hx
    obtain ⟨p, q⟩ := swap_at hi hj t ht
    rw [q]
    exact h.mem _ (List.getElem_mem _)

/-- behind m turns of Over -/
structure Ch (k : Nat) (L : List Int) (m : Nat) (A : AH) : Prop where
  wf : A.WF
  used : A.used = 2 * k
  mixed : Mixed k L
  led : ∀ t (h : t + 1 < L.length), t < m → A.find (L[t]'(by omega)) = some ⟨5, [L[t + 1]], []⟩
  raw : ∀ t (h : t < L.length), m ≤ t → ∃ n, A.find L[t] = some ⟨4, [], n⟩
theorem Ch.start {k : Nat} {L : List Int} {A : AH} (h : Thunks k A) (m : Mixed k L) : Ch k L 0 A := by
  refine ⟨h.1, h.2.1, m, fun t _ ht => by omega, fun t ht _ => ?_⟩
  obtain ⟨j, hj, e⟩ := m.mem _ (List.getElem_mem ht)
  exact ⟨_, by rw [e]; exact h.2.2.2 j hj⟩
theorem Ch.has {k : Nat} {L : List Int} {m : Nat} {A : AH} (h : Ch k L m A) (hm : m < k) {t : Nat} (ht : t < L.length) : A.has L[t] := by
  have hl := h.mixed.len
  unfold AH.has
  by_cases e : t < m
  · rw [h.led t (by omega) e]; simp
  · obtain ⟨n, hn⟩ := h.raw t ht (by omega)
    rw [hn]; simp
theorem Ch.ok {k : Nat} {L : List Int} {m : Nat} {A : AH} (h : Ch k L m A) (hm : m < k) {s t : Nat} (hs : s < L.length) (ht : t < L.length) (hst : s ≠ t) : A.OverOk L[s] L[t] :=
  ⟨h.has hm hs, h.has hm ht, fun e => hst ((List.getElem_inj h.mixed.nodup).1 e)⟩
theorem Ch.step {k : Nat} {L : List Int} {m : Nat} {A : AH} (h : Ch k L m A) (hm : m + 1 < L.length) : Ch k L (m + 1) (A.over (L[m]'(by omega)) L[m + 1]) := by
  have hl := h.mixed.len
  have ok := h.ok (by omega) (show m < L.length by omega) hm (by omega)
  refine ⟨WF_over h.wf ok, h.used, h.mixed, fun t ht htm => ?_, fun t ht hmt => ?_⟩
  · rw [over_find ok.1]
    by_cases e : t = m
    · subst e; simp
    · rw [if_neg (fun q => e ((List.getElem_inj h.mixed.nodup).1 q))]
      exact h.led t ht (by omega)
  · rw [over_find ok.1, if_neg (fun q => by have := (List.getElem_inj h.mixed.nodup).1 q; omega)]
    exact h.raw t ht (by omega)

/-- what is asked at the end -/
structure Res (k : Nat) (L : List Int) (ring : Bool) (A : AH) : Prop where
  wf : A.WF
  used : A.used = 2 * k
  follow : ∀ t (h : t < L.length), A.follow L[t] = if ring then -1 else L.getD (k - 1) 0
  tag : ∀ t (h : t < L.length), A.tag L[t] = if t + 1 < k ∨ ring = true then 5 else 4
theorem Ch.many {k : Nat} {L : List Int} {m : Nat} {A : AH} (h : Ch k L m A) (hm : m < k) : k ≤ A.objs.length := by
  have := len_sub L (A.objs.map (·.1)) h.mixed.nodup (fun x hx => by
    obtain ⟨t, ht, rfl⟩ := List.mem_iff_getElem.1 hx
    exact has_iff.1 (h.has hm ht))
  rw [List.length_map, h.mixed.len] at this
  exact this
theorem Ch.done {k : Nat} {L : List Int} {m : Nat} {A : AH} (h : Ch k L m A) (hk : 2 ≤ k) (hm : m + 1 = k) : Res k L false A := by
  have hl := h.mixed.len
  have hlast : L.getD (k - 1) 0 = L[k - 1]'(by omega) := by rw [List.getD_eq_getElem?_getD, List.getElem?_eq_getElem (by omega)]; rfl
  have gen : ∀ (n t : Nat) (ht : t < L.length), k - 1 - t < n → A.followN n L[t] = L[k - 1]'(by omega) := by
    intro n
    induction n with
    | zero => intro t _ h; omega
    | succ n ih =>
      intro t ht hn
      by_cases e : t + 1 < L.length
      · have := ih (t + 1) e (by omega)
        simp only [AH.followN, h.led t e (by omega), if_true, List.getD_cons_zero]
        exact this
      · obtain ⟨q, hq⟩ := h.raw t ht (by omega)
        have et : t = k - 1 := by omega
        subst et
        simp only [AH.followN, hq, show ¬ (4 : Int) = 5 by decide, if_false]
  refine ⟨h.wf, h.used, fun t ht => ?_, fun t ht => ?_⟩
  · have := h.many (by omega)
    simp only [Bool.false_eq_true, if_false, hlast]
    exact gen _ t ht (by omega)
  · by_cases e : t + 1 < k
    · simp [e, AH.tag, h.led t (by omega) (by omega)]
    · obtain ⟨q, hq⟩ := h.raw t ht (by omega)
      simp [e, AH.tag, hq]
theorem Ch.ring {k : Nat} {L : List Int} {m : Nat} {A : AH} (h : Ch k L m A) (hk : 2 ≤ k) (hm : m + 1 = k) (h0 : 0 < L.length) (h1 : k - 1 < L.length) :
    A.OverOk L[k - 1] L[0] ∧ Res k L true (A.over L[k - 1] L[0]) := by
  have hl := h.mixed.len
  have ok := h.ok (by omega) h1 h0 (by omega)
  have hall : ∀ x ∈ L, ∃ y ∈ L, (A.over L[k - 1] L[0]).find x = some ⟨5, [y], []⟩ := by
    intro x hx
    obtain ⟨t, ht, rfl⟩ := List.mem_iff_getElem.1 hx
    rw [over_find ok.1]
    by_cases e : t = k - 1
    · subst e
      exact ⟨L[0], List.getElem_mem h0, by rw [if_pos rfl]⟩
    · refine ⟨L[t + 1]'(by omega), List.getElem_mem _, ?_⟩
      rw [if_neg (fun q => e ((List.getElem_inj h.mixed.nodup).1 q)), h.led t (by omega) (by omega)]
  have gen : ∀ n x, x ∈ L → (A.over L[k - 1] L[0]).followN n x = -1 := by
    intro n
    induction n with
    | zero => intro x _; rfl
    | succ n ih =>
      intro x hx
      obtain ⟨y, hy, hf⟩ := hall x hx
      simp only [AH.followN, hf, if_true, List.getD_cons_zero]
      exact ih y hy
  refine ⟨ok, WF_over h.wf ok, h.used, fun t ht => ?_, fun t ht => ?_⟩
  · simp only [if_true]; exact gen _ _ (List.getElem_mem ht)
  · obtain ⟨y, _, hf⟩ := hall _ (List.getElem_mem ht)
    simp [AH.tag, hf]
end Go.Proofs.Ytjhdnbediipibaa
