import Derived.Test.YtddcfnjmppijjaaA6
import Derived.Test.YtddcfnjmppijjaaS2
import Derived.Sort.OwnSorted
import Derived.Lib.OwnBridge
/-! Rows of texts: Clone, Sort, Compact; core.names. -/
namespace Go.Proofs.Ytddcfnjmppijjaa
open Go.RowKit Go.Sort

/-- a row of texts of one's own, at a block from B on -/
abbrev Rt (B : Nat) (w : World) (v : Value) (l : List Str) : Prop := w.ownsRow B 9 1 v l.length (l.map St)

theorem encStr_St : (encStr : List UInt8 → Value) = St := rfl

/-- in the order of texts -/
def srt (l : List Str) : List Str := l.mergeSort fun x y => decide (x ≤ y)
theorem srt_length (l : List Str) : (srt l).length = l.length := List.length_mergeSort l

theorem clone_any {w : World} {D : Nat → Prop} {v : Value} {l : List Str} (h : Nm w D v l) (hl : l.length ≤ 1000000) :
    Calls Try.prog 53 #[v] w fun e w' => ∃ v', e = .returned v' ∧ Rt w.heap.size w' v' l ∧ (l ≠ [] → v' ≠ .slice none 0 0) ∧ Grew w w' := by
  obtain ⟨ad, cap, rfl, hc, hm, h⟩ := h
  rcases h with rfl | ⟨g, o, rfl, -, hcell⟩
  · cases ad with
    | none =>
      refine (Try.slices_Clone_string_nil _ cap w).mono ?_
      rintro e w' ⟨rfl, rfl⟩
      exact ⟨_, rfl, World.ownsRow_nil _ _ _ _, fun h => absurd rfl h, Fr.refl _ _⟩
    | some a =>
      refine (Try.slices_Clone_string_zero a cap w).mono ?_
      rintro e w' ⟨v', rfl, h1, _, h2⟩
      exact ⟨_, rfl, h1, fun h => absurd rfl h, below_grew h2⟩
  · refine (Try.slices_Clone_string g o l.length cap (l.map fun s => ⟨s.toArray⟩) w (by simp) (by omega) ?_).mono ?_
    · intro j hj
      have hj' : j < l.length := by simpa using hj
      rw [hcell j hj']
      simp [List.getD, hj']
    · rintro e w' ⟨v', rfl, h1, h2, h3⟩
      refine ⟨_, rfl, ?_, fun _ => h2, below_grew h3⟩
      have e1 : (((l.map fun s => (⟨s.toArray⟩ : ByteArray)).take l.length).map Value.string) = l.map St := by
        rw [List.take_of_length_le (by simp), List.map_map]; rfl
      rw [e1] at h1
      exact h1

theorem sort_any {w : World} {B : Nat} {v : Value} {l : List Str} (h : Rt B w v l) (hl : l.length ≤ 1000000) :
    Calls Try.prog 62 #[v] w fun e w' => e = .returned (.tuple #[]) ∧ Rt B w' v (srt l) ∧ Fr (fun b => v.ownBlock = some b) w w' := by
  by_cases h0 : v = .slice none 0 0
  · subst h0
    refine (Try.slices_Sort_string_none none 0 w).mono ?_
    rintro e w' ⟨rfl, rfl⟩
    have hl0 : l = [] := by
      rcases h.2 with ⟨_, h2⟩ | ⟨g, cap, cur, hv, _⟩
      · exact List.eq_nil_of_length_eq_zero h2
      · cases hv
    subst hl0
    exact ⟨rfl, by simpa [srt] using h, Fr.refl _ _⟩
  · obtain ⟨g, cap, rfl, hB, hg, hn, hm, -, hH⟩ := Lib.holds_of_ownsRow (enc := encStr) (zs := l) h h0
    refine (Try.slices_Sort_string g 0 cap l w hH hg (by omega)).mono ?_
    rintro e w' ⟨rfl, n, os, rfl⟩
    rcases h.2 with ⟨e0, _⟩ | ⟨g', cap', cur, e0, hB, hb, h1, h2, h3, h4⟩
    · cases e0
    · cases e0
      refine ⟨rfl, ?_, (Fr.refl _ w).grown (grownBy_sorted _) (fun k hk _ => by simp [Value.ownBlock]; exact Option.some.inj hk)⟩
      have := ownsRow_sorted (n := n) (os := os) (ts := srt l) (srt_length l) hB hb h1 h2 h3
      unfold Rt
      rw [srt_length]
      exact this

theorem compact_any {w : World} {B : Nat} {v : Value} {l : List Str} (h : Rt B w v l) (hl : l.length ≤ 1000000) (h0 : l ≠ []) :
    Calls Try.prog 98 #[v] w fun e w' => ∃ a c, e = .returned (.slice a (Lib.compact l).length c) ∧ Fr (fun b => v.ownBlock = some b) w w' := by
  have hv : v ≠ .slice none 0 0 := by
    rintro rfl
    rcases h.2 with ⟨_, h2⟩ | ⟨g, cap, cur, hv, _⟩
    · exact h0 (List.eq_nil_of_length_eq_zero h2)
    · cases hv
  obtain ⟨g, cap, rfl, hB, hg, hn, hm, -, hH⟩ := Lib.holds_of_ownsRow (enc := encStr) (zs := l) h hv
  refine (Try.slices_Compact_string g 0 cap l w hH (by omega) hn).mono ?_
  rintro e w' ⟨rfl, q, rfl⟩
  refine ⟨_, _, rfl, ?_⟩
  have := (Fr.refl (fun b => (Value.slice (some ⟨g, 0, none⟩) l.length cap).ownBlock = some b) w).grown (grownBy_sorted (w := w) (g := g) (n := q) (os := #[]) (Lib.compact l ++ List.replicate (l.length - (Lib.compact l).length) []).toArray) (fun k hk _ => by simp [Value.ownBlock]; exact Option.some.inj hk)
  rwa [grow_empty] at this

/-! the plain law on names -/

theorem srt_perm (l : List Str) : (srt l).Perm l := List.mergeSort_perm l _
theorem srt_sorted (l : List Str) : (srt l).Pairwise (fun x y => x ≤ y) := by
  have := List.pairwise_mergeSort (le := fun x y : Str => decide (x ≤ y)) (fun a b c h k => by simp only [decide_eq_true_eq] at *; exact List.le_trans h k) (fun a b => by simp only [Bool.or_eq_true, decide_eq_true_eq]; exact List.le_total a b) l
  exact this.imp (fun h => by simpa using h)

theorem nil_le (x : Str) : ([] : Str) ≤ x := by simp
theorem le_nil (x : Str) (h : x ≤ []) : x = [] := by simpa using h

theorem compact_full (l : List Str) : (Lib.compact l).length = l.length ↔ ∀ j, j < l.length → Lib.keeps l.toArray j = true := by
  unfold Lib.compact Lib.compactUpTo
  rw [List.length_map]
  constructor
  · intro h j hj
    have h1 : ((List.range l.length).filter (Lib.keeps l.toArray)).length = (List.range l.length).length := by rw [h, List.length_range]
    exact (List.length_filter_eq_length_iff.1 h1) j (List.mem_range.2 hj)
  · intro h
    have h1 : ((List.range l.length).filter (Lib.keeps l.toArray)).length = (List.range l.length).length := List.length_filter_eq_length_iff.2 (fun j hj => h j (List.mem_range.1 hj))
    rw [h1, List.length_range]

theorem compact_nodup (l : List Str) (h : l.Pairwise (fun x y => x ≤ y)) : (Lib.compact l).length = l.length ↔ l.Nodup := by
  rw [compact_full]
  constructor
  · intro hk
    rw [List.nodup_iff_pairwise_ne, List.pairwise_iff_getElem]
    intro i j hi hj hij e
    have hp := List.pairwise_iff_getElem.1 h
    have h1 := hk (i + 1) (by omega)
    simp only [Lib.keeps, decide_eq_true_eq] at h1
    rcases h1 with h1 | h1
    · omega
    · apply h1
      have hi1 : i + 1 < l.length := by omega
      simp only [Nat.add_sub_cancel, List.getElem!_toArray, getElem!_pos l (i + 1) hi1, getElem!_pos l i hi]
      by_cases hj1 : j = i + 1
      · subst hj1; exact e.symm
      · have a := hp i (i + 1) hi hi1 (by omega)
        have b := hp (i + 1) j hi1 hj (by omega)
        rw [← e] at b
        exact List.le_antisymm b a
  · intro hn j hj
    simp only [Lib.keeps, decide_eq_true_eq]
    by_cases h0 : j = 0
    · exact .inl h0
    · refine .inr fun e => ?_
      have hj1 : j - 1 < l.length := by omega
      simp only [List.getElem!_toArray, getElem!_pos l j hj, getElem!_pos l (j - 1) hj1] at e
      have := (List.getElem_inj hn).1 e
      omega

/-- may these names be bound together? -/
def namesB (l : List Str) : Bool := decide (l ≠ [] ∧ [] ∉ l ∧ l.Nodup)

theorem namesB_srt (l : List Str) (x : Str) (r : List Str) (h : srt l = x :: r) : namesB l = ((!x.isEmpty) && decide ((Lib.compact (srt l)).length = (srt l).length)) := by
  have hp := srt_perm l
  have hs := srt_sorted l
  have hne : l ≠ [] := by rintro rfl; simp [srt] at h
  rw [Bool.eq_iff_iff]
  simp only [namesB, decide_eq_true_eq, Bool.and_eq_true, Bool.not_eq_true', List.isEmpty_eq_false_iff, ne_eq]
  rw [compact_nodup _ hs, hp.nodup_iff]
  refine ⟨fun ⟨_, h2, h3⟩ => ⟨fun e => h2 (hp.mem_iff.1 (by rw [h, e]; exact List.mem_cons_self)), h3⟩, fun ⟨h1, h3⟩ => ⟨hne, fun hm => ?_, h3⟩⟩
  have := hp.mem_iff.2 hm
  rw [h] at this hs
  rcases List.mem_cons.1 this with e | hr
  · exact h1 e.symm
  · exact h1 (le_nil _ ((List.pairwise_cons.1 hs).1 _ hr))
end Go.Proofs.Ytddcfnjmppijjaa
