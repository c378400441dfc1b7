import Derived.Test.YtjhdnbediipibaaA3
/-! shaped, Clone, Ptrs, Nums. -/
namespace Go.Proofs.Ytjhdnbediipibaa
open Go.RowKit

/-- may an object be so? -/
def ShapeOk (t : Int) (p n : List Int) : Prop :=
  1 ≤ t ∧ t ≤ 7 ∧ p.length ≤ 60 ∧ n.length ≤ 60 ∧ (t = 2 → p.length = 2 ∧ n.length = 0) ∧ (t = 5 → p.length = 1 ∧ n.length = 0) ∧
    (t = 6 → p.length = 1 ∧ n.length = 1 ∧ (n = [0] ∨ n = [1]))
instance (t : Int) (p n : List Int) : Decidable (ShapeOk t p n) := by unfold ShapeOk; infer_instance

theorem shape_false {t : Int} {p n : List Int} (h : ¬ ShapeOk t p n) : decide (ShapeOk t p n) = false := by simpa using h
theorem shape_true {t : Int} {p n : List Int} (h : ShapeOk t p n) : decide (ShapeOk t p n) = true := by simpa using h

set_option maxHeartbeats 1000000 in
theorem shaped_walk (t : Int) (a1 a2 : Option Addr) (p c1 n c2 : Nat) (w : World) (r : Bool)
    (H : (r = false ∧ (t < 1 ∨ 7 < t ∨ 60 < (p : Int) ∨ 60 < (n : Int))) ∨
      (1 ≤ t ∧ t ≤ 7 ∧ (p : Int) ≤ 60 ∧ (n : Int) ≤ 60 ∧ ¬ t = 2 ∧ ¬ t = 5 ∧ ¬ t = 6 ∧ r = true) ∨
      ((p : Int) ≤ 60 ∧ (n : Int) ≤ 60 ∧ t = 2 ∧ (if p = 2 then r = decide (n = 0) else r = false)) ∨
      ((p : Int) ≤ 60 ∧ (n : Int) ≤ 60 ∧ t = 5 ∧ (if p = 1 then r = decide (n = 0) else r = false)) ∨
      ((p : Int) ≤ 60 ∧ (n : Int) ≤ 60 ∧ t = 6 ∧ r = false ∧ ¬ (p = 1 ∧ n = 1)) ∨
      (t = 6 ∧ p = 1 ∧ n = 1 ∧ ∃ g z, a2 = some ⟨g, 0, none⟩ ∧ w.cell? ⟨g, 0, none⟩ = some (Kv z) ∧ r = decide (z = 0 ∨ z = 1))) :
    Calls Try.prog 47 #[.int .i64 t, .slice a1 p c1, .slice a2 n c2] w fun e w' => e = .returned (.bool r) ∧ w = w' := by
  rcases H with ⟨hr, h | h | h | h⟩ | ⟨h1, h2, h3, h4, h5, h6, h7, hr⟩ | ⟨h3, h4, ht, hr⟩ | ⟨h3, h4, ht, hr⟩ | ⟨h3, h4, ht, hr, hn⟩ | ⟨ht, hp, hn, g, z, ha, hc, hr⟩
  · subst hr
    go_enter Try.func47, Try.ntmps47
    go_wp2
    go_ret
    exact ⟨rfl, rfl⟩
  · subst hr
    have h0 : ¬ t < 1 := by omega
    go_enter Try.func47, Try.ntmps47
    go_wp2
    go_ret
    exact ⟨rfl, rfl⟩
  · subst hr
    by_cases h0 : t < 1
    · go_enter Try.func47, Try.ntmps47
      go_wp2
      go_ret
      exact ⟨rfl, rfl⟩
    · by_cases h1 : 7 < t
      · go_enter Try.func47, Try.ntmps47
        go_wp2
        go_ret
        exact ⟨rfl, rfl⟩
      · go_enter Try.func47, Try.ntmps47
        go_wp2
        go_ret
        exact ⟨rfl, rfl⟩
  · subst hr
    by_cases h0 : t < 1
    · go_enter Try.func47, Try.ntmps47
      go_wp2
      go_ret
      exact ⟨rfl, rfl⟩
    · by_cases h1 : 7 < t
      · go_enter Try.func47, Try.ntmps47
        go_wp2
        go_ret
        exact ⟨rfl, rfl⟩
      · by_cases h2 : 60 < (p : Int)
        · go_enter Try.func47, Try.ntmps47
          go_wp2
          go_ret
          exact ⟨rfl, rfl⟩
        · go_enter Try.func47, Try.ntmps47
          go_wp2
          go_ret
          exact ⟨rfl, rfl⟩
  · subst hr
    have e5 : (t == 2) = false := by simpa using h5
    have e6 : (t == 5) = false := by simpa using h6
    have e7 : (t == 6) = false := by simpa using h7
    clear h5 h6 h7
    have g1 : ¬ t < 1 := by omega
    have g2 : ¬ 7 < t := by omega
    have g3 : ¬ 60 < (p : Int) := by omega
    have g4 : ¬ 60 < (n : Int) := by omega
    go_enter Try.func47, Try.ntmps47
    go_wp2
    go_ret
    exact ⟨rfl, rfl⟩
  · subst ht
    have g3 : ¬ 60 < (p : Int) := by omega
    have g4 : ¬ 60 < (n : Int) := by omega
    by_cases hp : p = 2
    · subst hp
      rw [if_pos rfl] at hr
      by_cases hn : n = 0
      · subst hn
        simp at hr; subst hr
        go_enter Try.func47, Try.ntmps47
        go_wp2
        go_ret
        exact ⟨rfl, rfl⟩
      · have e : ((n : Int) == 0) = false := by simpa using hn
        simp only [hn, decide_false] at hr; subst hr
        go_enter Try.func47, Try.ntmps47
        go_wp2
        go_ret
        exact ⟨rfl, rfl⟩
    · rw [if_neg hp] at hr; subst hr
      have e : ((p : Int) == 2) = false := by simp; omega
      clear hp
      go_enter Try.func47, Try.ntmps47
      go_wp2
      go_ret
      exact ⟨rfl, rfl⟩
  · subst ht
    have g3 : ¬ 60 < (p : Int) := by omega
    have g4 : ¬ 60 < (n : Int) := by omega
    by_cases hp : p = 1
    · subst hp
      rw [if_pos rfl] at hr
      by_cases hn : n = 0
      · subst hn
        simp at hr; subst hr
        go_enter Try.func47, Try.ntmps47
        go_wp2
        go_ret
        exact ⟨rfl, rfl⟩
      · have e : ((n : Int) == 0) = false := by simpa using hn
        simp only [hn, decide_false] at hr; subst hr
        go_enter Try.func47, Try.ntmps47
        go_wp2
        go_ret
        exact ⟨rfl, rfl⟩
    · rw [if_neg hp] at hr; subst hr
      have e : ((p : Int) == 1) = false := by simp; omega
      clear hp
      go_enter Try.func47, Try.ntmps47
      go_wp2
      go_ret
      exact ⟨rfl, rfl⟩
  · subst ht hr
    have g3 : ¬ 60 < (p : Int) := by omega
    have g4 : ¬ 60 < (n : Int) := by omega
    by_cases hp : p = 1
    · subst hp
      have e : ((n : Int) == 1) = false := by simp; omega
      clear hn
      go_enter Try.func47, Try.ntmps47
      go_wp2
      go_ret
      exact ⟨rfl, rfl⟩
    · have e : ((p : Int) == 1) = false := by simp; omega
      clear hp hn
      go_enter Try.func47, Try.ntmps47
      go_wp2
      go_ret
      exact ⟨rfl, rfl⟩
  · subst ht hp hn ha
    by_cases hz : z = 0
    · subst hz
      simp at hr; subst hr
      go_enter Try.func47, Try.ntmps47
      go_wp2
      go_ret
      exact ⟨rfl, rfl⟩
    · have e : (z == 0) = false := by simpa using hz
      have e1 : r = (z == 1) := by rw [hr, Bool.eq_iff_iff]; simp [hz]
      clear hr hz
      subst e1
      go_enter Try.func47, Try.ntmps47
      go_wp2
      go_ret
      exact ⟨rfl, rfl⟩

theorem shaped_any {w : World} {v u : Value} {l m : List Int} (t : Int) (hv : Ow w v l) (hu : Ow w u m) :
    Calls Try.prog 47 #[.int .i64 t, v, u] w fun e w' => e = .returned (.bool (decide (ShapeOk t l m))) ∧ w = w' := by
  obtain ⟨a1, c1, rfl, _, _⟩ := hv.shape
  obtain ⟨a2, c2, rfl, _, _⟩ := hu.shape
  refine shaped_walk t a1 a2 l.length c1 m.length c2 w _ ?_
  by_cases h1 : t < 1
  · exact .inl ⟨shape_false (by unfold ShapeOk; omega), .inl h1⟩
  by_cases h2 : 7 < t
  · exact .inl ⟨shape_false (by unfold ShapeOk; omega), .inr (.inl h2)⟩
  by_cases h3 : 60 < (l.length : Int)
  · exact .inl ⟨shape_false (by unfold ShapeOk; omega), .inr (.inr (.inl h3))⟩
  by_cases h4 : 60 < (m.length : Int)
  · exact .inl ⟨shape_false (by unfold ShapeOk; omega), .inr (.inr (.inr h4))⟩
  by_cases e2 : t = 2
  · refine .inr (.inr (.inl ⟨by omega, by omega, e2, ?_⟩))
    split
    · rename_i hl
      rw [decide_eq_decide]; unfold ShapeOk; omega
    · exact shape_false (by unfold ShapeOk; omega)
  by_cases e5 : t = 5
  · refine .inr (.inr (.inr (.inl ⟨by omega, by omega, e5, ?_⟩)))
    split
    · rw [decide_eq_decide]; unfold ShapeOk; omega
    · exact shape_false (by unfold ShapeOk; omega)
  by_cases e6 : t = 6
  · by_cases hpn : l.length = 1 ∧ m.length = 1
    · refine .inr (.inr (.inr (.inr (.inr ⟨e6, hpn.1, hpn.2, ?_⟩))))
      obtain ⟨g, cap, he, _, _, _, hc⟩ := hu.at (by omega)
      cases he
      have hc0 := (hc 0 (by omega)).1
      refine ⟨g, m[0]'(by omega), rfl, hc0, ?_⟩
      obtain ⟨z, rfl⟩ : ∃ z, m = [z] := by
        match m, hpn.2 with
        | [z], _ => exact ⟨z, rfl⟩
      rw [decide_eq_decide]; unfold ShapeOk
      exact ⟨fun h => by simpa using (h.2.2.2.2.2.2 e6).2.2, fun h => ⟨by omega, by omega, by omega, by simp, fun e => by omega, fun e => by omega, fun _ => ⟨hpn.1, rfl, by simpa using h⟩⟩⟩
    · exact .inr (.inr (.inr (.inr (.inl ⟨by omega, by omega, e6, shape_false (by unfold ShapeOk; omega), hpn⟩))))
  · exact .inr (.inl ⟨by omega, by omega, by omega, by omega, e2, e5, e6, shape_true (by unfold ShapeOk; omega)⟩)

theorem Ow.empty (w : World) : Ow (w.alloc (.cells #[] 3)) (.slice (some ⟨w.heap.size, 0, none⟩) 0 0) [] :=
  ⟨by simp, .inr ⟨w.heap.size, 0, #[], rfl, Nat.zero_le _, heap_alloc_new w _, Nat.le_refl _, by simp [maxLen], by simp, by simp⟩⟩

theorem Grew.alloc (w : World) (o : Obj) : Grew w (w.alloc o) := (Fr.refl _ w).alloc o

theorem clone_any {w : World} {v : Value} {l : List Int} (hv : Ow w v l) (hb : l.length ≤ 17592186044416) :
    Calls Try.prog 49 #[v] w fun e w' => ∃ v', e = .returned v' ∧ Ow w' v' l ∧ Grew w w' ∧ (∀ g, v'.ownBlock = some g → w.heap.size ≤ g) := by
  rcases hv.parts with ⟨rfl, rfl⟩ | ⟨g, cap, cur, rfl, hg, hrest⟩
  · have hq := fun (w : World) => Lib.run_eql_slice_nil (P := Try.prog) w 22 3 none 0 0 0 0 Try.underlying22
    go_enter Try.func49, Try.ntmps49
    go_wp2
    go_ret
    exact ⟨_, rfl, Ow.nil w, Fr.refl _ _, by simp [Value.ownBlock]⟩
  · have hv' : Ow (w.alloc (.cells #[] 3)) (.slice (some ⟨g, 0, none⟩) l.length cap) l := hv.kept (Grew.alloc w _) (fun _ _ f => f)
    obtain ⟨v', w', hr, ho, hf, hfr⟩ := app_ow (Ow.empty w) hv' (by simpa using hb) 22
    have hd : Grew w w' := (Grew.alloc w _).trans hf (fun i hi e => by simp [Value.ownBlock] at e; omega)
    have hn : ∀ g, v'.ownBlock = some g → w.heap.size ≤ g := fun b hb => by
      rcases hfr b hb with h | h
      · simp [Value.ownBlock] at h; omega
      · simp at h; omega
    have H := hid (And.intro ho (And.intro hd hn))
    have HR := hid hr
    clear hv hv' hr ho hf hfr hd hn hg hrest
    have hq := fun (w : World) => Lib.run_eql_slice_nil (P := Try.prog) w 22 3 (some ⟨g, 0, none⟩) l.length cap 0 0 Try.underlying22
    go_enter Try.func49, Try.ntmps49
    go_wp2_with (at_builtin; refine wpList_app rfl rfl rfl rfl HR.out ?_)
    go_ret
    exact ⟨v', rfl, by simpa using H.out⟩
end Go.Proofs.Ytjhdnbediipibaa
