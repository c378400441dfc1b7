import Derived.Test.YtjhdnbediipibaaE14
/-! The document's collection by roots of which one is none. -/
namespace Go.Proofs.Ytjhdnbediipibaa
open Go.RowKit

set_option maxHeartbeats 2000000 in
set_option maxRecDepth 100000 in
theorem rcollect_no {xb : Nat} {A : AH} {f1 : List Nat} {d : Nat} {w : World} (hA : A.WF) (h : RH w xb A f1) {rv : Value} {roots : List Int} (hr : Ow w rv roots) (hlen : roots.length ≤ 1000000) (hno : ∃ k ∈ roots, ¬ A.has k) :
    Calls Try.prog 46 #[.pointer (some ⟨xb, 0, none⟩), rv, .int .i64 d] w fun e w' => e = .returned (.tuple #[.pointer none, .slice none 0 0, .bool false]) ∧ w = w' := by
  obtain ⟨ra, rc, rfl, hrc, _⟩ := hr.shape
  have hcell : ∀ i (hi : i < roots.length), ∃ g, ra = some ⟨g, 0, none⟩ ∧ w.cell? ⟨g, i, none⟩ = some (Kv roots[i]) := by
    intro i hi
    obtain ⟨g, c, he, _, _, _, hc⟩ := hr.at (by omega)
    cases he
    exact ⟨g, rfl, (hc i hi).1⟩
  have HR := hid (And.intro hcell (And.intro hno (And.intro h hA)))
  clear hcell hno h hr hA
  go_enter Try.func46, Try.ntmps46
  go_wp2
  go_loopw [9] (fun i wx => ∃ j : Nat, j ≤ roots.length ∧ i = .int .i64 j ∧ wx = w ∧ ∀ t (ht : t < roots.length), t < j → A.has roots[t]) (fun i _ => roots.length - (intOf i).toNat)
  case atStart => exact ⟨0, Nat.zero_le _, rfl, rfl, fun t _ ht => by omega⟩
  case round =>
    obtain ⟨j, hj, rfl, hwx, hd⟩ := hrel
    replace hwx := hwx.symm
    subst hwx
    have HD := hid hd
    clear hd
    have hj1 : j < roots.length := by
      apply Classical.byContradiction
      intro hn
      obtain ⟨k, hk, hkn⟩ := HR.out.2.1
      obtain ⟨t, ht, rfl⟩ := List.mem_iff_getElem.1 hk
      exact hkn (HD.out t ht (by omega))
    obtain ⟨g, rfl, hc⟩ := HR.out.1 j hj1
    have hjc : j < rc := by omega
    have hta := rtag_any HR.out.2.2.1 HR.out.2.2.2.fine.few roots[j]
    by_cases hh : A.has roots[j]
    · have htz : (A.tag roots[j] == 0) = false := by
        have h1 := tag_has HR.out.2.2.2 roots[j]
        have : A.tag roots[j] ≠ 0 := fun e => h1.1 e hh
        simpa using this
      have HD2 := hid (fun t (ht : t < roots.length) (h : t < j + 1) => by
        by_cases e : t = j
        · subst e; exact hh
        · exact HD.out t ht (by omega) : ∀ t (ht : t < roots.length), t < j + 1 → A.has roots[t])
      generalize A.tag roots[j] = t at *
      obtain ⟨q, hq⟩ : ∃ q, roots[j] = q := ⟨_, rfl⟩
      rw [hq] at hc hta
      clear hq hh
      go_wp2_with (go_at_call 43; refine hta.mono ?_; rintro e w' ⟨rfl, rfl⟩)
      go_roundw
      case rel => exact ⟨j + 1, by omega, by go_num, trivial, HD2.out⟩
      case measure => simp [intOf]; omega
    · have htz : (A.tag roots[j] == 0) = true := by
        have h1 := (tag_has HR.out.2.2.2 roots[j]).2 hh
        simpa using h1
      generalize A.tag roots[j] = t at *
      obtain ⟨q, hq⟩ : ∃ q, roots[j] = q := ⟨_, rfl⟩
      rw [hq] at hc hta
      clear hq hh
      go_wp2_with (go_at_call 43; refine hta.mono ?_; rintro e w' ⟨rfl, rfl⟩)
      go_ret3
      exact ⟨rfl, rfl⟩
end Go.Proofs.Ytjhdnbediipibaa
