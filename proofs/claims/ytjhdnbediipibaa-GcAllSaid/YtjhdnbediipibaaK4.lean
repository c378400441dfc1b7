import Derived.Test.YtjhdnbediipibaaK3
/-! What a heap's newest object is; rows of atoms. -/
namespace Go.Proofs.Ytjhdnbediipibaa
open Go.RowKit

theorem find_newest {A : AH} (h : A.WF) (t : Int) (p n : List Int) : (A.add t p n).find A.used = some ⟨t, p, n⟩ := by
  show lookO A.used (A.objs ++ [(A.used, ⟨t, p, n⟩)]) = _
  rw [lookO_append, show lookO A.used A.objs = none from h.fine.free]
  simp [lookO]
theorem find_old {A : AH} {k : Int} (hk : A.has k) (t : Int) (p n : List Int) : (A.add t p n).find k = A.find k := by
  show lookO k (A.objs ++ [(A.used, ⟨t, p, n⟩)]) = A.find k
  obtain ⟨o, ho, _⟩ := AH.has_find hk
  rw [lookO_append, show lookO k A.objs = some o from ho, ho]
  rfl
theorem not_has {A : AH} (h : A.WF) {k : Int} (hk : A.used ≤ k) : ¬ A.has k := fun hh => by
  obtain ⟨o, _, hm⟩ := AH.has_find hh
  have := (h.range _ hm).2
  simp only at this
  omega
theorem ptrs_find {A : AH} {k : Int} {t : Int} {p n : List Int} (h : A.find k = some ⟨t, p, n⟩) : A.ptrs k = p ∧ A.nums k = n ∧ A.tag k = t := by
  simp [AH.ptrs, AH.nums, AH.tag, h]
theorem follow_self {A : AH} {k : Int} {t : Int} {p n : List Int} (h : A.find k = some ⟨t, p, n⟩) (ht : t ≠ 5) : A.follow k = k := by
  simp [AH.follow, AH.followN, h, ht]

/-- so many atoms -/
def Atoms (k : Nat) (words : Int) (A : AH) : Prop := A.WF ∧ A.used = 2 * k ∧ A.words = words ∧ A.keys = (List.range k).map (fun i : Nat => 2 * (i : Int))
theorem atoms_zero (words : Int) (h0 : 0 ≤ words) (h1 : words ≤ 1000000) : Atoms 0 words ⟨[], 0, words⟩ := ⟨WF_new words h0 h1, rfl, rfl, rfl⟩
theorem atoms_ok {k : Nat} {words : Int} {A : AH} (h : Atoms k words A) (hk : 2 * (k : Int) + 2 ≤ words) : A.AllocOk 7 [] [] := by
  refine ⟨by decide, by simp, ?_⟩
  rw [h.2.1, h.2.2.1]
  simp [osz]; omega
theorem atoms_add {k : Nat} {words : Int} {A : AH} (h : Atoms k words A) (hk : 2 * (k : Int) + 2 ≤ words) : Atoms (k + 1) words (A.add 7 [] []) := by
  refine ⟨WF_add h.1 (atoms_ok h hk), ?_, h.2.2.1, ?_⟩
  · show A.used + osz [] [] = _
    rw [h.2.1]; simp [osz]; omega
  · show (A.objs ++ [(A.used, (⟨7, [], []⟩ : HObj))]).map (·.1) = _
    rw [List.map_append, List.range_succ, List.map_append]
    have := h.2.2.2
    unfold AH.keys at this
    rw [this, h.2.1]
    rfl
theorem atoms_has {k : Nat} {words : Int} {A : AH} (h : Atoms k words A) {i : Nat} (hi : i < k) : A.has (2 * (i : Int)) := by
  rw [has_iff]
  have := h.2.2.2
  unfold AH.keys at this
  rw [this]
  exact List.mem_map.2 ⟨i, by simpa using hi, rfl⟩

/-- a heap in a law's loop -/
def OneRel (Φ : AH → Prop) (w : World) (hb : Nat) (wr : World) : Prop := ∃ A fp, PH wr hb A fp ∧ Φ A ∧ Grew w wr ∧ ∀ b ∈ fp, w.heap.size ≤ b
theorem OneRel.made {Ψ : AH → Prop} {w wr w1 : World} {hb : Nat} {A : AH} {fpr : List Nat} {t : Int} {p n : List Int} {e : Ending} {u : Int} (hu : A.used = u) (r2 : Grew w wr) (r3 : ∀ b ∈ fpr, w.heap.size ≤ b) (h : MadePost wr hb A fpr t p n e w1) (hΨ : Ψ (A.add t p n)) :
    e = .returned (.tuple #[Kv u, .bool true]) ∧ OneRel Ψ w hb w1 := by
  obtain ⟨h1, fp', h2, h3, h4, _⟩ := rel_made hu r2 r3 h
  exact ⟨h1, _, fp', h2, hΨ, h3, h4⟩
theorem OneRel.grew {Φ : AH → Prop} {w : World} {hb : Nat} {wr wx : World} (h : OneRel Φ w hb wr) (g : Grew wr wx) : OneRel Φ w hb wx := by
  obtain ⟨A, fp, h1, h2, h3, h4⟩ := h
  exact ⟨A, fp, h1.grew g, h2, h3.trans g (fun _ _ f => f), h4⟩
theorem OneRel.start {w w0 w1 : World} {hb : Nat} {a : Int} {fp : List Nat} (g0 : Grew w w0) (p : PH w1 hb ⟨[], 0, a⟩ fp) (g : Grew w0 w1) (b : ∀ b ∈ fp, w0.heap.size ≤ b) {Φ : AH → Prop} (h : Φ ⟨[], 0, a⟩) : OneRel Φ w hb w1 :=
  ⟨_, fp, p, h, g0.trans g (fun _ _ f => f), fun x hx => Nat.le_trans g0.size (b x hx)⟩
end Go.Proofs.Ytjhdnbediipibaa
