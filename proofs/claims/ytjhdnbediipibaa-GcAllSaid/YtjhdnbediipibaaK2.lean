import Derived.Test.YtjhdnbediipibaaK1
/-! known (chapter 11), Same. -/
namespace Go.Proofs.Ytjhdnbediipibaa
open Go.RowKit

theorem usedI {w : World} {hb : Nat} {A : AH} {fp : List Nat} {u : Int} (h : PH w hb A fp) (hu : A.used = u) :
    Calls Try.prog 27 #[.pointer (some ⟨hb, 0, none⟩)] w fun e w' => e = .returned (Kv u) ∧ w = w' := by
  rw [← hu]; exact used_any h
theorem wordsI {w : World} {hb : Nat} {A : AH} {fp : List Nat} {u : Int} (h : PH w hb A fp) (hu : A.words = u) :
    Calls Try.prog 38 #[.pointer (some ⟨hb, 0, none⟩)] w fun e w' => e = .returned (Kv u) ∧ w = w' := by
  rw [← hu]; exact words_any h
theorem ptrsI {w : World} {hb : Nat} {A : AH} {fp : List Nat} {k : Int} {l : List Int} (h : PH w hb A fp) (hn : A.ptrs k = l) (hl : l.length ≤ 17592186044416) :
    Calls Try.prog 31 #[.pointer (some ⟨hb, 0, none⟩), .int .i64 k] w (NewRow w l) := by
  subst hn; exact ptrs_any h k hl
theorem numsI {w : World} {hb : Nat} {A : AH} {fp : List Nat} {k : Int} {l : List Int} (h : PH w hb A fp) (hn : A.nums k = l) (hl : l.length ≤ 17592186044416) :
    Calls Try.prog 29 #[.pointer (some ⟨hb, 0, none⟩), .int .i64 k] w (NewRow w l) := by
  subst hn; exact nums_any h k hl
theorem tagI {w : World} {hb : Nat} {A : AH} {fp : List Nat} {k t : Int} (h : PH w hb A fp) (hn : A.tag k = t) :
    Calls Try.prog 26 #[.pointer (some ⟨hb, 0, none⟩), .int .i64 k] w fun e w' => e = .returned (Kv t) ∧ w = w' := by
  subst hn; exact tag_any h k
theorem followI {w : World} {hb : Nat} {A : AH} {fp : List Nat} {k t : Int} (h : PH w hb A fp) (hW : A.WF) (hn : A.follow k = t) :
    Calls Try.prog 34 #[.pointer (some ⟨hb, 0, none⟩), .int .i64 k] w fun e w' => e = .returned (Kv t) ∧ w = w' := by
  subst hn; exact follow_any h hW.shaped hW.fine.few k
theorem objsI {w : World} {hb : Nat} {A : AH} {fp : List Nat} {l : List Int} (h : PH w hb A fp) (hW : A.WF) (hn : A.keys = l) :
    Calls Try.prog 37 #[.pointer (some ⟨hb, 0, none⟩)] w (NewRow w l) := by
  subst hn; exact objects_any h hW
theorem intsI {w : World} {u v : Value} {l : List Int} (hu : Ow w u l) (hv : Ow w v l) (hl : l.length ≤ 1000000) :
    Calls Try.prog 28 #[u, v] w fun e w' => e = .returned (.bool true) ∧ Grew w w' := by
  have h := ints_any hu hv hl
  rw [show decide (l = l) = true from by simp] at h
  exact h
theorem Ow.three (w : World) (x y z : Int) : Ow (w.alloc (.cells #[.int .i64 x, .int .i64 y, .int .i64 z] 3)) (.slice (some ⟨w.heap.size, 0, none⟩) 3 3) [x, y, z] :=
  ⟨by simp, .inr ⟨w.heap.size, 3, #[.int .i64 x, .int .i64 y, .int .i64 z], rfl, Nat.zero_le _, heap_alloc_new w _, Nat.le_refl _, by simp [maxLen], by simp, by simp⟩⟩

set_option maxHeartbeats 1000000 in
set_option maxRecDepth 100000 in
theorem known11_any (w : World) : Calls Try.prog 35 #[] w fun e w' => e = .returned (.bool true) ∧ Grew w w' := by
  go_enter Try.func35, Try.ntmps35
  go_wp2_with fail
  refine (new_any _ _).mono ?_
  rintro e w1 ⟨hb, fp, rfl, p1, g1, b1⟩
  have H1 := hid (And.intro p1 (And.intro g1 b1))
  clear p1 g1 b1
  go_wp2_with fail
  refine (usedI H1.out.1 (u := 0) rfl).mono ?_
  rintro e w' ⟨rfl, rfl⟩
  go_wp2_with fail
  have g0 := Grew.alloc w1 (.cells #[.int .i64 7] 3)
  have hA := WF_new 10 (by omega) (by omega)
  have ok : (⟨[], 0, 10⟩ : AH).AllocOk 1 [] [7] := by decide
  refine (alloc_yes (H1.out.1.grew g0) hA 1 (Ow.nil _) (Ow.one w1 7) ok).mono ?_
  intro e w2 hp
  obtain ⟨rfl, fp2, p2, g2, _⟩ := rel_made (u := 0) rfl (H1.out.2.1.trans g0 (fun _ _ f => f)) H1.out.2.2 hp
  have H2 := hid (And.intro p2 (And.intro g2 (WF_add hA ok)))
  clear p2 g2 hp ok hA g0 H1
  go_wp2_with fail
  refine (usedI H2.out.1 (u := 2) (by decide)).mono ?_
  rintro e w' ⟨rfl, rfl⟩
  go_wp2_with fail
  refine (tagI H2.out.1 (t := 1) (by decide)).mono ?_
  rintro e w' ⟨rfl, rfl⟩
  go_wp2_with fail
  refine (numsI H2.out.1 (l := [7]) (by decide) (by simp)).mono ?_
  rintro e w3 ⟨v, rfl, o3, g3, _⟩
  obtain ⟨va, vc, rfl, _, _⟩ := o3.shape
  have H3 := hid g3
  clear o3 g3
  go_wp2_with fail
  refine (objsI (H2.out.1.grew H3.out) H2.out.2.2 (l := [0]) (by decide)).mono ?_
  rintro e w4 ⟨v, rfl, o4, g4, _⟩
  obtain ⟨va, vc, rfl, _, _⟩ := o4.shape
  have H4 := hid ((H2.out.2.1.trans (H3.out.trans g4 (fun _ _ f => f)) (fun _ _ f => f) : Grew w w4))
  clear o4 g4 H3 H2
  go_wp2
  go_ret
  exact ⟨rfl, H4.out⟩

set_option maxHeartbeats 2000000 in
set_option maxRecDepth 100000 in
theorem same_any {w : World} {hb xb : Nat} {A : AH} {fp : List Nat} (h : Two w hb xb A fp) (hW : A.WF) :
    Calls Try.prog 42 #[.pointer (some ⟨hb, 0, none⟩), .pointer (some ⟨xb, 0, none⟩)] w fun e w' => e = .returned (.bool true) ∧ Grew w w' := by
  obtain ⟨f1, f2, rfl, hp, hx, _⟩ := h
  have hl := hW.len
  have hkl : A.keys.length ≤ 500000 := by simp [AH.keys]; omega
  have H := hid (And.intro hp (And.intro hx hW))
  clear hp hx hW hl
  obtain ⟨u, hu⟩ : ∃ u, A.used = u := ⟨_, rfl⟩
  obtain ⟨n, hn⟩ : ∃ n, A.words = n := ⟨_, rfl⟩
  have hu2 := rused_any H.out.2.1
  have hn2 := rwords_any H.out.2.1
  rw [hu] at hu2
  rw [hn] at hn2
  have hru := fun wx (g : Grew w wx) => rused_any (H.out.2.1.grew g)
  rw [hu] at hru
  have huu : (u != u) = false := by simp
  have hnn : (n != n) = false := by simp
  go_enter Try.func42, Try.ntmps42
  go_wp2_with fail
  refine (usedI H.out.1 hu).mono ?_
  rintro e w' ⟨rfl, rfl⟩
  go_wp2_with fail
  refine hu2.mono ?_
  rintro e w' ⟨rfl, rfl⟩
  go_wp2_with fail
  refine (wordsI H.out.1 hn).mono ?_
  rintro e w' ⟨rfl, rfl⟩
  go_wp2_with fail
  refine hn2.mono ?_
  rintro e w' ⟨rfl, rfl⟩
  clear hu2 hn2
  go_wp2_with fail
  refine (objects_any H.out.1 H.out.2.2).mono ?_
  rintro e w1 ⟨v1, rfl, o1, g1, _⟩
  have H1 := hid (And.intro o1 g1)
  clear o1 g1
  go_wp2_with fail
  refine (robjects_any (H.out.2.1.grew H1.out.2) H.out.2.2.fine.few).mono ?_
  rintro e w2 ⟨v2, rfl, o2, g2, _⟩
  have H2 := hid (And.intro (intsI (H1.out.1.kept g2 (fun _ _ f => f)) o2 (by omega)) (H1.out.2.trans g2 (fun _ _ f => f)))
  clear o2 g2 H1
  go_wp2_with fail
  refine H2.out.1.mono ?_
  rintro e w3 ⟨rfl, g3⟩
  have H3 := hid ((H2.out.2.trans g3 (fun _ _ f => f) : Grew w w3))
  clear g3 H2 huu hnn
  go_wp2_with fail
  refine (robjects_any (H.out.2.1.grew H3.out) H.out.2.2.fine.few).mono ?_
  rintro e w4 ⟨v4, rfl, o4, g4, f4⟩
  have H4 := hid (And.intro o4 (And.intro (H3.out.trans g4 (fun _ _ f => f) : Grew w w4) (fun g hg => Nat.le_trans H3.out.size (f4 g hg) : ∀ g, v4.ownBlock = some g → w.heap.size ≤ g)))
  clear o4 g4 f4
  go_wp2_with fail
  refine (hru _ H4.out.2.1).mono ?_
  rintro e w' ⟨rfl, rfl⟩
  obtain ⟨v5, w5, happ, o5, f5, _⟩ := app_ow (H4.out.1.kept (Grew.alloc w4 (.cells #[.int .i64 (-1), .int .i64 1, .int .i64 u] 3)) (fun _ _ f => f)) (Ow.three w4 (-1) 1 u) (by simp; omega) 22
  have HAPP := hid happ
  have H5 := hid (And.intro o5 (grew_step (H4.out.2.1.trans (Grew.alloc w4 (.cells #[.int .i64 (-1), .int .i64 1, .int .i64 u] 3)) (fun _ _ f => f)) f5 (fun i e => H4.out.2.2 i e)))
  have hL : (A.keys ++ [-1, 1, u]).length ≤ 500003 := by simp; omega
  clear happ o5 f5 H4 H3 hru
  generalize A.keys ++ [-1, 1, u] = L at *
  obtain ⟨la, lc, rfl, hlc, _⟩ := H5.out.1.shape
  go_wp2_with (at_builtin; refine wpList_app rfl rfl rfl rfl HAPP.out ?_)
  clear HAPP
  go_loopw [6] (fun i wr => ∃ k : Nat, k ≤ L.length ∧ i = .int .i64 k ∧ Grew w5 wr) (fun i _ => L.length - (intOf i).toNat)
  case atStart => exact ⟨0, Nat.zero_le _, rfl, Fr.refl _ _⟩
  case round =>
    obtain ⟨k, hk, rfl, hgr⟩ := hrel
    by_cases hlt : k < L.length
    · obtain ⟨g, cap, he, _, _, _, hcl⟩ := (H5.out.1.kept hgr (fun _ _ f => f)).at (by omega)
      cases he
      have hc := (hcl k hlt).1
      generalize L[k] = a at *
      obtain ⟨t, ht⟩ : ∃ t, A.tag a = t := ⟨_, rfl⟩
      obtain ⟨fo, hfo⟩ : ∃ fo, A.follow a = fo := ⟨_, rfl⟩
      have hp60 := H.out.2.2.shaped.ptrs_le a
      have hn60 := H.out.2.2.shaped.nums_le a
      have G := hid (H5.out.2.trans hgr (fun _ _ f => f))
      have hrt := rtag_any (H.out.2.1.grew G.out) H.out.2.2.fine.few a
      rw [ht] at hrt
      have hrf := fun wx (g : Grew w wx) => rfollow_any (H.out.2.1.grew g) H.out.2.2.shaped H.out.2.2.fine.few a
      rw [hfo] at hrf
      have htt : (t != t) = false := by simp
      have hff : (fo != fo) = false := by simp
      have HGR := hid hgr
      clear hcl hgr
      go_wp2_with fail
      refine (tagI (H.out.1.grew G.out) ht).mono ?_
      rintro e w' ⟨rfl, rfl⟩
      go_wp2_with fail
      refine hrt.mono ?_
      rintro e w' ⟨rfl, rfl⟩
      clear hrt
      go_wp2_with fail
      refine (ptrs_any (H.out.1.grew G.out) a (by omega)).mono ?_
      rintro e w6 ⟨v6, rfl, o6, g6, _⟩
      have H6 := hid (And.intro o6 g6)
      clear o6 g6
      go_wp2_with fail
      refine (rptrs_any ((H.out.2.1.grew G.out).grew H6.out.2) H.out.2.2.fine.few a (by omega)).mono ?_
      rintro e w7 ⟨v7, rfl, o7, g7, _⟩
      have H7 := hid (And.intro (intsI (H6.out.1.kept g7 (fun _ _ f => f)) o7 (by omega)) (H6.out.2.trans g7 (fun _ _ f => f)))
      clear o7 g7 H6
      go_wp2_with fail
      refine H7.out.1.mono ?_
      rintro e w8 ⟨rfl, g8⟩
      have H8 := hid ((H7.out.2.trans g8 (fun _ _ f => f) : Grew wr w8))
      clear g8 H7
      go_wp2_with fail
      refine (nums_any ((H.out.1.grew G.out).grew H8.out) a (by omega)).mono ?_
      rintro e w9 ⟨v9, rfl, o9, g9, _⟩
      have H9 := hid (And.intro o9 (H8.out.trans g9 (fun _ _ f => f)))
      clear o9 g9 H8
      go_wp2_with fail
      refine (rnums_any ((H.out.2.1.grew G.out).grew H9.out.2) H.out.2.2.fine.few a (by omega)).mono ?_
      rintro e w10 ⟨v10, rfl, o10, g10, _⟩
      have H10 := hid (And.intro (intsI (H9.out.1.kept g10 (fun _ _ f => f)) o10 (by omega)) (H9.out.2.trans g10 (fun _ _ f => f)))
      clear o10 g10 H9
      go_wp2_with fail
      refine H10.out.1.mono ?_
      rintro e w11 ⟨rfl, g11⟩
      have H11 := hid ((H10.out.2.trans g11 (fun _ _ f => f) : Grew wr w11))
      clear g11 H10
      go_wp2_with fail
      refine (followI ((H.out.1.grew G.out).grew H11.out) H.out.2.2 hfo).mono ?_
      rintro e w' ⟨rfl, rfl⟩
      go_wp2_with fail
      refine (hrf _ (G.out.trans H11.out (fun _ _ f => f))).mono ?_
      rintro e w' ⟨rfl, rfl⟩
      go_wp2
      go_roundw
      case rel => exact ⟨k + 1, by omega, by go_num, HGR.out.trans H11.out (fun _ _ f => f)⟩
      case measure => simp [intOf]; omega
    · have G := hid (H5.out.2.trans hgr (fun _ _ f => f))
      clear hgr
      go_wp2
      go_ret
      exact ⟨rfl, G.out⟩
end Go.Proofs.Ytjhdnbediipibaa
