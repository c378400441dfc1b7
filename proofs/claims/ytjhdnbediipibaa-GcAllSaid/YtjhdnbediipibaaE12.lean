import Derived.Test.YtjhdnbediipibaaP15
/-! A pointer of an object of the document's heap is stored: the heap as it stands in memory. -/
namespace Go.Proofs.Ytjhdnbediipibaa
open Go.RowKit

theorem map_set' {α β : Type} (f : α → β) (l : List α) (i : Nat) (x : α) : (l.set i x).map f = (l.map f).set i (f x) := by rw [List.map_set]

theorem RX.store {w : World} {tb : Nat} {T : AH} {ft : List Nat} {lv : Value} {xs : List PO} (h : RX w tb T ft lv xs) {i : Nat} (hi : i < xs.length) {g c k : Nat} (hpv : xs[i].pv = .slice (some ⟨g, 0, none⟩) xs[i].o.ptrs.length c) (v : Int) :
    RX (w.setCell ⟨g, k, none⟩ (Kv v)) tb ⟨T.objs.set i (xs[i].at', { xs[i].o with ptrs := xs[i].o.ptrs.set k v }), T.used, T.words⟩ ft lv (xs.set i { xs[i] with o := { xs[i].o with ptrs := xs[i].o.ptrs.set k v } }) ∧
      Fr (· ∈ ft) w (w.setCell ⟨g, k, none⟩ (Kv v)) := by
  have hf : Fr (fun b => b = g) w (w.setCell ⟨g, k, none⟩ (Kv v)) := (Fr.refl (fun b => b = g) w).setCell (p := ⟨g, k, none⟩) (fun _ => rfl) _
  have hgb : g ∈ xs[i].blocks := by simp [PO.blocks, hpv, Value.ownBlock]
  have hnd := h.nodup
  rw [h.blocks] at hnd
  simp only [List.nodup_cons, List.nodup_append, List.mem_append, List.mem_flatMap, Option.mem_toList] at hnd
  obtain ⟨hn1, _, hn3, hn4⟩ := hnd
  have hgtb : tb ≠ g := fun e => hn1 (.inr ⟨xs[i], List.getElem_mem hi, e ▸ hgb⟩)
  have hglv : lv.ownBlock ≠ some g := fun e => hn4 g e g ⟨xs[i], List.getElem_mem hi, hgb⟩ rfl
  have hgft : g ∈ ft := by rw [h.blocks]; simp only [List.mem_cons, List.mem_append, List.mem_flatMap]; exact .inr (.inr ⟨xs[i], List.getElem_mem hi, hgb⟩)
  -- the i-th's own blocks, and the others'
  have hsplit : xs = xs.take i ++ xs[i] :: xs.drop (i + 1) := by rw [← List.drop_eq_getElem_cons hi, List.take_append_drop]
  have hn3' := hn3
  rw [hsplit, List.flatMap_append, List.flatMap_cons] at hn3'
  simp only [List.nodup_append, List.mem_append, List.mem_flatMap] at hn3'
  obtain ⟨_, ⟨hown, _, hd2⟩, hd1⟩ := hn3'
  have hoth : ∀ j (hj : j < xs.length), j ≠ i → g ∉ xs[j].blocks := by
    intro j hj hji hm
    rcases Nat.lt_or_gt_of_ne hji with hlt | hgt
    · refine hd1 g ⟨xs[j], ?_, hm⟩ g (.inl hgb) rfl
      rw [List.mem_take_iff_getElem]
      exact ⟨j, by omega, rfl⟩
    · refine hd2 g hgb g ⟨xs[j], ?_, hm⟩ rfl
      rw [List.mem_drop_iff_getElem]
      exact ⟨j - (i + 1), by omega, by congr 1; omega⟩
  have hx := h.each _ (List.getElem_mem hi)
  have hown' : g ≠ xs[i].ob ∧ xs[i].nv.ownBlock ≠ some g := by
    unfold PO.blocks at hown
    rw [hpv] at hown
    simp only [Value.ownBlock, Option.toList_some, List.nodup_cons, List.singleton_append, List.mem_cons, Option.mem_toList] at hown
    exact ⟨fun e => hown.1 (.inl e.symm), fun e => hown.2.1 e⟩
  refine ⟨⟨hf.get h.top (fun e => hgtb e), ?_, ?_, ?_, ?_, h.nodup⟩, hf.mono (fun b _ e => e ▸ hgft)⟩
  · rw [List.map_set]
    have : (xs.map PO.ptr).set i (PO.ptr { xs[i] with o := { xs[i].o with ptrs := xs[i].o.ptrs.set k v } }) = xs.map PO.ptr := by
      apply List.ext_getElem?
      intro j
      by_cases e : i = j
      · subst e
        rw [List.getElem?_set_self (by simpa using hi), List.getElem?_map, List.getElem?_eq_getElem hi]; rfl
      · rw [List.getElem?_set_ne e]
    rw [this]
    exact h.row.kept hf (fun b hb e => hglv (e ▸ hb))
  · show T.objs.set i _ = _
    rw [List.map_set, h.objs]; rfl
  · intro x hxm
    obtain ⟨j, hj, rfl⟩ := List.mem_iff_getElem.1 hxm
    rw [List.getElem_set]
    split
    · refine ⟨hf.get hx.1 (fun e => hown'.1 e.symm), ?_, hx.2.2.kept hf (fun b hb e => hown'.2 (e ▸ hb))⟩
      have := hx.2.1
      show Ow _ xs[i].pv (xs[i].o.ptrs.set k v)
      rw [hpv] at this ⊢
      have h2 := this.set k v
      rw [List.length_set] at h2
      exact h2
    · rename_i hne
      rw [List.length_set] at hj
      exact (h.each _ (List.getElem_mem hj)).kept hf (fun b hb e => hoth j hj (fun q => hne q.symm) (e ▸ hb))
  · rw [h.blocks]
    congr 2
    rw [List.flatMap_def, List.flatMap_def, List.map_set]
    congr 1
    apply List.ext_getElem?
    intro j
    by_cases e : i = j
    · subst e
      rw [List.getElem?_set_self (by simpa using hi), List.getElem?_map, List.getElem?_eq_getElem hi]; rfl
    · rw [List.getElem?_set_ne e]
end Go.Proofs.Ytjhdnbediipibaa
