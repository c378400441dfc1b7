import Derived.Test.YtjhdnbediipibaaC1
/-! Plain: what is made is well made. -/
namespace Go.Proofs.Ytjhdnbediipibaa

theorem WF_new (w : Int) (h0 : 0 ≤ w) (h1 : w ≤ 1000000) : (⟨[], 0, w⟩ : AH).WF :=
  ⟨fun _ h => by simp at h, fun _ h => by simp at h, by simp, fun _ h => by simp at h, by simp [sumSz], h0, h1⟩

theorem lookO_append {k : Int} : ∀ {l : List (Int × HObj)} (m : List (Int × HObj)), lookO k (l ++ m) = (lookO k l).orElse (fun _ => lookO k m)
  | [], m => by simp [lookO]
  | p :: r, m => by
    simp only [List.cons_append, lookO]
    split
    · simp
    · exact lookO_append m

theorem add_find (A : AH) (t : Int) (p n : List Int) (k : Int) : (A.add t p n).find k = (A.find k).orElse (fun _ => if k = A.used then some ⟨t, p, n⟩ else none) := by
  unfold AH.find AH.add
  rw [lookO_append]
  simp [lookO]

theorem add_has {A : AH} {t : Int} {p n : List Int} {k : Int} : (A.add t p n).has k ↔ A.has k ∨ k = A.used := by
  unfold AH.has
  rw [add_find]
  cases A.find k <;> simp

theorem WF_add {A : AH} (h : A.WF) {t : Int} {p n : List Int} (ok : A.AllocOk t p n) : (A.add t p n).WF := by
  obtain ⟨h1, h2, h3⟩ := ok
  have hz := osz_ge p n
  refine ⟨?_, ?_, ?_, ?_, ?_, h3, h.w0⟩
  · intro q hq
    rcases List.mem_append.1 hq with hq | hq
    · exact h.shaped q hq
    · rw [List.mem_singleton] at hq; subst hq; exact h1
  · intro q hq x hx
    rw [add_has]
    rcases List.mem_append.1 hq with hq | hq
    · exact .inl (h.closed q hq x hx)
    · rw [List.mem_singleton] at hq; subst hq; exact h2 x hx
  · show ((A.objs ++ [(A.used, (⟨t, p, n⟩ : HObj))]).map (·.1)).Pairwise (· < ·)
    rw [List.map_append, List.pairwise_append]
    refine ⟨h.keys, by simp, fun a ha b hb => ?_⟩
    obtain ⟨q, hq, rfl⟩ := List.mem_map.1 ha
    simp at hb
    subst hb
    exact (h.range q hq).2
  · intro q hq
    show 0 ≤ q.1 ∧ q.1 < A.used + osz p n
    rcases List.mem_append.1 hq with hq | hq
    · have := h.range q hq; omega
    · rw [List.mem_singleton] at hq; subst hq
      have := h.u0
      show 0 ≤ A.used ∧ A.used < _
      omega
  · show sumSz (A.objs ++ [(A.used, (⟨t, p, n⟩ : HObj))]) ≤ A.used + osz p n
    rw [sumSz_append]
    have := h.sum
    simp only [sumSz, HObj.sz]
    omega
end Go.Proofs.Ytjhdnbediipibaa
