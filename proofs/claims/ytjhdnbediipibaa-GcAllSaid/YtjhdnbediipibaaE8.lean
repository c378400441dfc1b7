import Derived.Test.YtjhdnbediipibaaE7
/-! both, roots. -/
namespace Go.Proofs.Ytjhdnbediipibaa
open Go.RowKit

/-- a row that came in -/
def RowIn (w : World) (a : Option Addr) (len cap : Nat) : Prop := len ≤ maxLen ∧ ∀ i, i < len → ∃ x v, a = some x ∧ len ≤ cap ∧ w.cell? (x.add i) = some (.int .i64 v)
theorem RowIn.kept {w w' : World} {a : Option Addr} {len cap : Nat} (h : RowIn w a len cap) (g : Grew w w') : RowIn w' a len cap :=
  ⟨h.1, fun i hi => by obtain ⟨x, v, h1, h2, h3⟩ := h.2 i hi; exact ⟨x, v, h1, h2, g.cell h3 (fun f => f)⟩⟩

/-- two heaps that were made -/
def Made (w : World) (hb xb : Nat) (wr : World) : Prop :=
  ∃ A fp, A.WF ∧ A.words = 300 ∧ Two wr hb xb A fp ∧ Grew w wr ∧ ∀ b ∈ fp, w.heap.size ≤ b

set_option maxHeartbeats 1000000 in
set_option maxRecDepth 100000 in
theorem both_any {w : World} {a1 : Option Addr} {len1 cap1 : Nat} (hr : RowIn w a1 len1 cap1) :
    Calls Try.prog 32 #[.slice a1 len1 cap1] w fun e w' => ∃ hb xb, e = .returned (.tuple #[.pointer (some ⟨hb, 0, none⟩), .pointer (some ⟨xb, 0, none⟩)]) ∧ Made w hb xb w' := by
  have HR := hid hr
  have hlm := hr.1
  unfold maxLen at hlm
  clear hr
  go_enter Try.func32, Try.ntmps32
  go_wp2_with fail
  refine (new_any _ _).mono ?_
  rintro e w1 ⟨hb, f1, rfl, p1, g1, b1⟩
  have H1 := hid (And.intro p1 (And.intro g1 b1))
  clear p1 g1 b1
  go_wp2_with fail
  refine (rnew_any _ _).mono ?_
  rintro e w2 ⟨xb, f2, rfl, p2, g2, b2⟩
  obtain ⟨p1, g1, b1⟩ := H1.out
  have HS := hid (show Made w hb xb w2 from ⟨_, f1 ++ f2, WF_new 300 (by omega) (by omega), rfl, ⟨f1, f2, rfl, p1.grew g2, p2, fun b hb hb' => by
      have a1 := p1.lt b hb
      have a2 := b2 b hb'
      omega⟩, g1.trans g2 (fun _ _ f => f), fun b hb => by
      rcases List.mem_append.1 hb with e | e
      · exact b1 b e
      · have a1 := b2 b e
        have a2 := g1.size
        omega⟩)
  clear p1 g1 b1 p2 g2 b2 H1
  go_wp2
  go_loopw [6] (fun i wr => ∃ k : Nat, k ≤ 90 ∧ k ≤ len1 ∧ i = .int .i64 k ∧ Made w hb xb wr) (fun i _ => 90 - (intOf i).toNat)
  case atStart => exact ⟨0, by omega, Nat.zero_le _, rfl, HS.out⟩
  case round =>
    clear HS
    obtain ⟨k, hk, hkl, rfl, A, fp, r1, r2, r3, r4, r5⟩ := hrel
    by_cases hlt1 : k < len1
    · by_cases hlt2 : k < 90
      · obtain ⟨x, v, rfl, hcap, hc⟩ := HR.out.2 k hlt1
        replace hc := r4.cell hc (fun f => f)
        have hst := step_any r3 r1 v 5
        have H := hid (And.intro r2 (And.intro r4 r5))
        clear r1 r2 r3 r4 r5
        go_wp2_with fail
        refine hst.mono ?_
        rintro e w3 ⟨rfl, A', q1, q2, fp', q3, q4, q5⟩
        obtain ⟨r2, r4, r5⟩ := H.out
        have HN := hid (show Made w hb xb w3 from ⟨A', fp', q1, by rw [q2, r2], q3, grew_step r4 q4 r5, fun b hb => by
          have := r4.size
          rcases q5 b hb with e | e
          · exact r5 b e
          · omega⟩)
        clear r2 r4 r5 q1 q2 q3 q4 q5 hst H hc
        go_wp2
        go_roundw
        case rel => exact ⟨k + 1, by omega, by omega, by go_num, HN.out⟩
        case measure => simp [intOf]; omega
      · have HN := hid (show Made w hb xb wr from ⟨A, fp, r1, r2, r3, r4, r5⟩)
        clear r1 r2 r3 r4 r5
        go_wp2
        go_ret2
        exact ⟨_, _, rfl, HN.out⟩
    · have HN := hid (show Made w hb xb wr from ⟨A, fp, r1, r2, r3, r4, r5⟩)
      clear r1 r2 r3 r4 r5
      go_wp2
      go_ret2
      exact ⟨_, _, rfl, HN.out⟩

set_option maxHeartbeats 1000000 in
set_option maxRecDepth 100000 in
theorem roots_any {w : World} {xb : Nat} {A : AH} {fp : List Nat} (h : RH w xb A fp) (hlen : A.objs.length ≤ 1000000) {a1 : Option Addr} {len1 cap1 : Nat} (hr : RowIn w a1 len1 cap1) :
    Calls Try.prog 33 #[.pointer (some ⟨xb, 0, none⟩), .slice a1 len1 cap1] w fun e w' => ∃ l, l.length ≤ 6 ∧ (∀ k ∈ l, A.has k) ∧ NewRow w l e w' := by
  have hob := robjects_any h hlen
  have hkl : A.keys.length ≤ 1000000 := by simpa [AH.keys] using hlen
  have hkh : ∀ k ∈ A.keys, A.has k := fun k hk => (has_iff).2 hk
  have HR := hid hr
  have HK := hid hkh
  have hlm := hr.1
  unfold maxLen at hlm
  clear h hr hkh
  go_enter Try.func33, Try.ntmps33
  go_wp2_with fail
  refine hob.mono ?_
  rintro e w1 ⟨v, rfl, o1, g1, _⟩
  obtain ⟨va, vc, rfl, hvc, _⟩ := o1.shape
  have HO := hid (And.intro o1 g1)
  have HRI := hid (HR.out.kept g1)
  clear hob o1 g1 HR
  go_wp2
  go_loopw [6, 7] (fun ov i wr => ∃ l : List Int, l.length ≤ 6 ∧ l.length ≤ len1 ∧ (∀ k ∈ l, A.has k) ∧ i = .int .i64 l.length ∧ Ow wr ov l ∧ Grew w1 wr ∧ ∀ b, ov.ownBlock = some b → w1.heap.size ≤ b) (fun _ i _ => 6 - (intOf i).toNat)
  case atStart => exact ⟨[], by simp, by simp, by simp, rfl, Ow.nil _, Fr.refl _ _, by simp [Value.ownBlock]⟩
  case round =>
    obtain ⟨l, hl6, hl1, hlh, rfl, r1, r2, r3⟩ := hrel
    by_cases hlt1 : l.length < len1
    · by_cases hlt2 : l.length < 6
      · by_cases hk0 : 0 < A.keys.length
        · obtain ⟨x, z, rfl, hcap, hc⟩ := HRI.out.2 l.length hlt1
          replace hc := r2.cell hc (fun f => f)
          obtain ⟨j, hj, hjl⟩ : ∃ j : Nat, z % (A.keys.length : Int) = j ∧ j < A.keys.length := ⟨(z % (A.keys.length : Int)).toNat, by have := Int.emod_nonneg z (show (A.keys.length : Int) ≠ 0 by omega); omega, by have := Int.emod_lt_of_pos z (show (0 : Int) < A.keys.length by omega); omega⟩
          have hkj := fun w => within12_any z A.keys.length w (by omega) (by omega)
          rw [hj] at hkj
          obtain ⟨g, cap, he, _, _, _, hcl⟩ := (HO.out.1.kept r2 (fun _ _ f => f)).at hk0
          cases he
          have hcj := (hcl j hjl).1
          have hhas := HK.out _ (List.getElem_mem hjl)
          generalize A.keys[j] = y at *
          obtain ⟨v', w2, happ, h2, h3, h4⟩ := mine_app r1 r2 r3 y (by omega)
          have HAPP := hid happ
          have HN := hid (And.intro (show ∀ k ∈ l ++ [y], A.has k from fun k hk => by
            rcases List.mem_append.1 hk with e | e
            · exact hlh k e
            · rw [List.mem_singleton] at e; subst e; exact hhas) (And.intro h2 (And.intro h3 h4)))
          have hk0' : (0 : Int) < A.keys.length := by omega
          clear hcl happ h2 h3 h4 r1 r2 r3 hlh hhas hj HO
          go_wp2_with (first | (go_at_call 23; refine (hkj _).mono ?_; rintro e w' ⟨rfl, rfl⟩) | (at_builtin; refine wpList_app rfl rfl rfl rfl HAPP.out ?_))
          go_roundw
          case rel => exact ⟨l ++ [y], by rw [List.length_append]; exact hlt2, by rw [List.length_append]; exact hlt1, HN.out.1, by simp, HN.out.2⟩
          case measure => simp [intOf]; omega
        · have H := hid (show NewRow w l (.returned u6) wr from ⟨u6, rfl, r1, HO.out.2.trans r2 (fun _ _ f => f), fun g hg => Nat.le_trans HO.out.2.size (r3 g hg)⟩)
          have hk0' : ¬ (0 : Int) < A.keys.length := by omega
          have HL := hid hlh
          clear r1 r2 r3 hlh
          go_wp2
          go_ret
          exact ⟨l, hl6, HL.out, H.out⟩
      · have H := hid (show NewRow w l (.returned u6) wr from ⟨u6, rfl, r1, HO.out.2.trans r2 (fun _ _ f => f), fun g hg => Nat.le_trans HO.out.2.size (r3 g hg)⟩)
        have HL := hid hlh
        clear r1 r2 r3 hlh
        go_wp2
        go_ret
        exact ⟨l, hl6, HL.out, H.out⟩
    · have H := hid (show NewRow w l (.returned u6) wr from ⟨u6, rfl, r1, HO.out.2.trans r2 (fun _ _ f => f), fun g hg => Nat.le_trans HO.out.2.size (r3 g hg)⟩)
      have HL := hid hlh
      clear r1 r2 r3 hlh
      go_wp2
      go_ret
      exact ⟨l, hl6, HL.out, H.out⟩
end Go.Proofs.Ytjhdnbediipibaa
