import Derived.Test.YtjhdnbediipibaaK7
/-! The document's Short. -/
namespace Go.Proofs.Ytjhdnbediipibaa
open Go.RowKit

set_option maxHeartbeats 1000000 in
theorem rshort_stay {xb : Nat} (D k a t r : Int) (w : World)
    (hfo : Calls Try.prog 44 #[.pointer (some ⟨xb, 0, none⟩), .int .i64 k] w fun e w' => e = .returned (Kv a) ∧ w = w')
    (hta : Calls Try.prog 43 #[.pointer (some ⟨xb, 0, none⟩), .int .i64 a] w fun e w' => e = .returned (Kv t) ∧ w = w')
    (hcase : (a < 0 ∧ r = k) ∨ (¬ a < 0 ∧ t ≠ 6 ∧ r = a) ∨ (¬ a < 0 ∧ t = 6 ∧ D ≤ 0 ∧ r = a)) :
    Calls Try.prog 70 #[.pointer (some ⟨xb, 0, none⟩), .int .i64 k, .int .i64 D] w (GivesK w r) := by
  rcases hcase with ⟨h1, rfl⟩ | ⟨h1, h2, rfl⟩ | ⟨h1, rfl, h3, rfl⟩
  · go_enter Try.func70, Try.ntmps70
    go_wp2_with (go_at_call 44; refine hfo.mono ?_; rintro e w' ⟨rfl, rfl⟩)
    go_ret
    exact ⟨rfl, Fr.refl _ _⟩
  · have e6 : (t != 6) = true := by simpa using h2
    clear h2
    go_enter Try.func70, Try.ntmps70
    go_wp2_with (first | (go_at_call 44; refine hfo.mono ?_; rintro e w' ⟨rfl, rfl⟩) | (go_at_call 43; refine hta.mono ?_; rintro e w' ⟨rfl, rfl⟩))
    go_ret
    exact ⟨rfl, Fr.refl _ _⟩
  · go_enter Try.func70, Try.ntmps70
    go_wp2_with (first | (go_at_call 44; refine hfo.mono ?_; rintro e w' ⟨rfl, rfl⟩) | (go_at_call 43; refine hta.mono ?_; rintro e w' ⟨rfl, rfl⟩))
    go_ret
    exact ⟨rfl, Fr.refl _ _⟩

set_option maxHeartbeats 2000000 in
theorem rshort_go {xb : Nat} (D k a p n t r : Int) (w : World) (hd : 0 < D) (hd2 : D ≤ 1000) (ha : ¬ a < 0) (hn : n = 0 ∨ n = 1)
    (hfo : Calls Try.prog 44 #[.pointer (some ⟨xb, 0, none⟩), .int .i64 k] w fun e w' => e = .returned (Kv a) ∧ w = w')
    (hta : Calls Try.prog 43 #[.pointer (some ⟨xb, 0, none⟩), .int .i64 a] w fun e w' => e = .returned (Kv 6) ∧ w = w')
    (HP : Hid (∀ w', Grew w w' → Calls Try.prog 60 #[.pointer (some ⟨xb, 0, none⟩), .int .i64 a] w' (NewOne w' p)))
    (HN : Hid (∀ w', Grew w w' → Calls Try.prog 61 #[.pointer (some ⟨xb, 0, none⟩), .int .i64 a] w' (NewOne w' n)))
    (HR : Hid (∀ w', Grew w w' → Calls Try.prog 70 #[.pointer (some ⟨xb, 0, none⟩), .int .i64 p, .int .i64 (D - 1)] w' (GivesK w' t)))
    (tt : Int) (HT2 : Hid (∀ w', Grew w w' → Calls Try.prog 43 #[.pointer (some ⟨xb, 0, none⟩), .int .i64 t] w' fun e w'' => e = .returned (Kv tt) ∧ w' = w''))
    (hcase : (tt ≠ 2 ∧ r = a) ∨ (tt = 2 ∧ ∃ y z, Hid (∀ w', Grew w w' → Calls Try.prog 60 #[.pointer (some ⟨xb, 0, none⟩), .int .i64 t] w' (NewTwo w' y z)) ∧
      Hid (∀ w', Grew w w' → Calls Try.prog 70 #[.pointer (some ⟨xb, 0, none⟩), .int .i64 (if n = 0 then y else z), .int .i64 (D - 1)] w' (GivesK w' r)))) :
    Calls Try.prog 70 #[.pointer (some ⟨xb, 0, none⟩), .int .i64 k, .int .i64 D] w (GivesK w r) := by
  have hdn : ¬ D ≤ 0 := by omega
  rcases hcase with ⟨ht, rfl⟩ | ⟨rfl, y, z, HP2, HR2⟩
  · have e6 : (tt != 2) = true := by simpa using ht
    clear ht
    go_enter Try.func70, Try.ntmps70
    go_wp2_with (first | (go_at_call 44; refine hfo.mono ?_; rintro e w' ⟨rfl, rfl⟩) | (go_at_call 43; refine hta.mono ?_; rintro e w' ⟨rfl, rfl⟩))
    refine (HP.out _ (Fr.refl _ _)).mono ?_
    rintro e w1 ⟨g, c, rfl, hc, h1c, g1⟩
    have G1 := hid g1
    have h0c : 0 < c := by omega
    clear g1
    go_wp2_with fail
    refine (HR.out _ G1.out).mono ?_
    rintro e w2 ⟨rfl, g2⟩
    have G2 := hid (G1.out.trans g2 (fun _ _ f => f) : Grew w w2)
    clear g2 hc G1
    go_wp2_with fail
    refine (HT2.out _ G2.out).mono ?_
    rintro e w' ⟨rfl, rfl⟩
    go_wp2
    go_ret
    exact ⟨rfl, G2.out⟩
  · go_enter Try.func70, Try.ntmps70
    go_wp2_with (first | (go_at_call 44; refine hfo.mono ?_; rintro e w' ⟨rfl, rfl⟩) | (go_at_call 43; refine hta.mono ?_; rintro e w' ⟨rfl, rfl⟩))
    refine (HP.out _ (Fr.refl _ _)).mono ?_
    rintro e w1 ⟨g, c, rfl, hc, h1c, g1⟩
    have G1 := hid g1
    have h0c : 0 < c := by omega
    clear g1
    go_wp2_with fail
    refine (HR.out _ G1.out).mono ?_
    rintro e w2 ⟨rfl, g2⟩
    have G2 := hid (G1.out.trans g2 (fun _ _ f => f) : Grew w w2)
    clear g2 hc G1
    go_wp2_with fail
    refine (HT2.out _ G2.out).mono ?_
    rintro e w' ⟨rfl, rfl⟩
    go_wp2_with fail
    refine (HP2.out _ G2.out).mono ?_
    rintro e w3 ⟨gp, cp, rfl, hy, hz, h2c, g3⟩
    have G3 := hid (G2.out.trans g3 (fun _ _ f => f) : Grew w w3)
    clear g3 G2
    go_wp2_with fail
    refine (HN.out _ G3.out).mono ?_
    rintro e w4 ⟨gn, cn, rfl, hcn, h3c, g4⟩
    have G4 := hid (G3.out.trans g4 (fun _ _ f => f) : Grew w w4)
    replace hy := g4.cell hy (fun f => f)
    replace hz := g4.cell hz (fun f => f)
    have h0p : 0 < cp := by omega
    have h1p : 1 < cp := by omega
    have h0n : 0 < cn := by omega
    clear g4 G3
    rcases hn with rfl | rfl
    · have HR3 := HR2.out _ G4.out
      rw [if_pos rfl] at HR3
      go_wp2_with fail
      refine HR3.mono ?_
      rintro e w5 ⟨rfl, g5⟩
      have G5 := hid (G4.out.trans g5 (fun _ _ f => f) : Grew w w5)
      clear g5 HR3 G4
      go_wp2
      go_ret
      exact ⟨rfl, G5.out⟩
    · have HR3 := HR2.out _ G4.out
      rw [if_neg (by decide)] at HR3
      go_wp2_with fail
      refine HR3.mono ?_
      rintro e w5 ⟨rfl, g5⟩
      have G5 := hid (G4.out.trans g5 (fun _ _ f => f) : Grew w w5)
      clear g5 HR3 G4
      go_wp2
      go_ret
      exact ⟨rfl, G5.out⟩

theorem rshort_any {xb : Nat} {A : AH} {fp : List Nat} (hW : A.WF) : ∀ (d : Nat) (_ : d ≤ 1000) (k : Int) (_ : A.has k) (w : World) (_ : RH w xb A fp),
    Calls Try.prog 70 #[.pointer (some ⟨xb, 0, none⟩), .int .i64 k, .int .i64 d] w (GivesK w (A.short d k)) := by
  have hlen := hW.fine.few
  have hS := hW.shaped
  intro d
  induction d with
  | zero =>
    intro _ k hk w h
    refine rshort_stay _ k (A.follow k) (A.tag (A.follow k)) _ w (rfollow_any h hS hlen k) (rtag_any h hlen _) ?_
    rcases follow_or hW hk with e | ⟨e1, e2, _⟩
    · exact .inl ⟨by omega, short_neg hW hk e 0⟩
    · by_cases h6 : A.tag (A.follow k) = 6
      · exact .inr (.inr ⟨by omega, h6, by omega, e2⟩)
      · exact .inr (.inl ⟨by omega, h6, e2⟩)
  | succ d ih =>
    intro hd k hk w h
    rcases follow_or hW hk with e | ⟨e1, e2, e3⟩
    · exact rshort_stay _ k (A.follow k) (A.tag (A.follow k)) _ w (rfollow_any h hS hlen k) (rtag_any h hlen _) (.inl ⟨by omega, short_neg hW hk e _⟩)
    by_cases h6 : A.tag (A.base k) = 6
    · obtain ⟨p, n, hp, hn, hn01⟩ := hS.sel h6
      have hpl := hS.ptrs_le
      have hnl := hS.nums_le
      have ec : ((d + 1 : Nat) : Int) - 1 = (d : Int) := by omega
      rw [e2] at h6 hp hn
      have hph : A.has p := hW.ptr_has (k := A.follow k) (by rw [hp]; simp)
      refine rshort_go (xb := xb) ((d + 1 : Nat) : Int) k (A.follow k) p n (A.short d p) (A.short (d + 1) k) w (by omega) (by omega) (by omega) hn01 (rfollow_any h hS hlen k) (by have := rtag_any h hlen (A.follow k); rw [h6] at this; exact this) ?_ ?_ ?_ (A.tag (A.short d p)) ?_ ?_
      · intro w' hg
        have := rptrs_any (h.grew hg) hlen (A.follow k) (by have := hpl (A.follow k); omega)
        rw [hp] at this
        exact this.mono (fun e w'' => NewRow.one)
      · intro w' hg
        have := rnums_any (h.grew hg) hlen (A.follow k) (by have := hnl (A.follow k); omega)
        rw [hn] at this
        exact this.mono (fun e w'' => NewRow.one)
      · intro w' hg
        rw [ec]
        exact ih (by omega) p hph w' (h.grew hg)
      · intro w' hg
        exact rtag_any (h.grew hg) hlen _
      · by_cases h2 : A.tag (A.short d p) = 2
        · refine .inr ⟨h2, ?_⟩
          obtain ⟨y, z, hyz, _⟩ := hS.con h2
          refine ⟨y, z, ?_, ?_⟩
          · intro w' hg
            have := rptrs_any (h.grew hg) hlen (A.short d p) (by have := hpl (A.short d p); omega)
            rw [hyz] at this
            exact this.mono (fun e w'' => NewRow.two)
          · intro w' hg
            have e : A.short (d + 1) k = A.short d (if n = 0 then y else z) := by
              simp only [AH.short, e2, h6, if_true, hp, List.getD_cons_zero, h2, hyz, hn]
              rcases hn01 with rfl | rfl <;> simp
            rw [e, ec]
            refine ih (by omega) _ (hW.ptr_has (k := A.short d p) ?_) w' (h.grew hg)
            rw [hyz]
            split <;> simp
        · refine .inl ⟨h2, ?_⟩
          simp only [AH.short, e2, h6, if_true, hp, List.getD_cons_zero, h2, if_false]
    · refine rshort_stay _ k (A.follow k) (A.tag (A.follow k)) _ w (rfollow_any h hS hlen k) (rtag_any h hlen _) (.inr (.inl ⟨by omega, by rw [← e2]; exact h6, ?_⟩))
      simp only [AH.short, e2]
      rw [e2] at h6
      simp only [h6, if_false]
end Go.Proofs.Ytjhdnbediipibaa
