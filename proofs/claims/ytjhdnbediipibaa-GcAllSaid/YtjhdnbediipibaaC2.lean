import Derived.Test.YtjhdnbediipibaaP3
/-! known (chapter 12). -/
namespace Go.Proofs.Ytjhdnbediipibaa
open Go.RowKit

def MadePost (w : World) (hb : Nat) (A : AH) (fp : List Nat) (t : Int) (p n : List Int) (e : Ending) (w' : World) : Prop :=
  e = .returned (.tuple #[Kv A.used, .bool true]) ∧ ∃ fp', PH w' hb (A.add t p n) fp' ∧ Fr (· ∈ fp) w w' ∧ ∀ b ∈ fp', b ∈ fp ∨ w.heap.size ≤ b

theorem alloc_yes {w : World} {hb : Nat} {A : AH} {fp : List Nat} (h : PH w hb A fp) (hF : A.WF) (t : Int) {pv nv : Value} {p n : List Int} (hp : Ow w pv p) (hn : Ow w nv n) (ok : A.AllocOk t p n) :
    Calls Try.prog 24 #[.pointer (some ⟨hb, 0, none⟩), .int .i64 t, pv, nv] w (MadePost w hb A fp t p n) := by
  refine (alloc_any h hF.fine t hp hn).mono ?_
  intro e w' hp
  unfold AllocPost at hp
  rw [if_pos ok] at hp
  exact hp

theorem grew_step {F : Nat → Prop} {w w1 w2 : World} (h : Grew w w1) (k : Fr F w1 w2) (hF : ∀ i, F i → w.heap.size ≤ i) : Grew w w2 := h.trans k (fun i hi f => by have := hF i f; omega)

/-- the chapter's heap -/
def A2 : AH := (((⟨[], 0, 20⟩ : AH).add 1 [] [1]).add 1 [] [2])

set_option maxHeartbeats 1000000 in
set_option maxRecDepth 100000 in
theorem known12_any (w : World) : Calls Try.prog 21 #[] w fun e w' => e = .returned (.bool true) ∧ Grew w w' := by
  have hA0 : (⟨[], 0, 20⟩ : AH).WF := WF_new 20 (by omega) (by omega)
  have ok1 : (⟨[], 0, 20⟩ : AH).AllocOk 1 [] [1] := by decide
  have hA1 := WF_add hA0 ok1
  have ok2 : ((⟨[], 0, 20⟩ : AH).add 1 [] [1]).AllocOk 1 [] [2] := by decide
  have hA2 : A2.WF := WF_add hA1 ok2
  have r1 : (A2.gcd 3 (A2.final 3 [])).used = 0 := by decide
  have r2 : A2.told 3 [] = [] := by decide
  have r3 : (A2.gcd 3 (A2.final 3 [2])).used = 2 := by decide
  have r4 : A2.told 3 [2] = [0] := by decide
  have rh : ∀ k ∈ [(2 : Int)], A2.has k := by decide
  have ru : ((⟨[], 0, 20⟩ : AH).add 1 [] [1]).used = 2 := by decide
  have H := hid (And.intro hA0 (And.intro ok1 (And.intro hA1 (And.intro ok2 (And.intro hA2 (And.intro r1 (And.intro r2 (And.intro r3 (And.intro r4 (And.intro rh ru))))))))))
  clear hA0 ok1 hA1 ok2 hA2 r1 r2 r3 r4 rh ru
  go_enter Try.func21, Try.ntmps21
  go_wp2_with fail
  refine (new_any _ _).mono ?_
  rintro e w1 ⟨hb, fp, rfl, p1, g1, b1⟩
  have HP := hid (And.intro p1 (And.intro g1 b1))
  clear p1 g1 b1
  go_wp2_with fail
  obtain ⟨p1, g1, b1⟩ := HP.out
  refine (alloc_yes (p1.grew (Grew.alloc w1 (.cells #[.int .i64 1] 3))) H.out.1 1 (Ow.nil _) (Ow.one w1 1) H.out.2.1).mono ?_
  rintro e w2 ⟨rfl, fp2, p2, g2, b2⟩
  have HP2 := hid (And.intro p2 (And.intro g2 b2))
  clear p1 g1 b1 p2 g2 b2
  go_wp2_with fail
  obtain ⟨p2, g2, b2⟩ := HP2.out
  refine (alloc_yes (p2.grew (Grew.alloc w2 (.cells #[.int .i64 2] 3))) H.out.2.2.1 1 (Ow.nil _) (Ow.one w2 2) H.out.2.2.2.1).mono ?_
  rintro e w3 ⟨rfl, fp3, p3, g3, b3⟩
  rw [H.out.2.2.2.2.2.2.2.2.2.2]
  have HP3 := hid (And.intro p3 (And.intro g3 b3))
  clear p2 g2 b2 p3 g3 b3
  go_wp2_with fail
  obtain ⟨p3, g3, b3⟩ := HP3.out
  refine (collect_ok (d := 3) H.out.2.2.2.2.1 (by omega) p3 (Ow.nil _) (by simp) (by simp)).mono ?_
  rintro e w4 ⟨ob, fp4, tv, rfl, p4, t4, g4, b4, c4⟩
  have u4 := H.out.2.2.2.2.2.1
  rw [H.out.2.2.2.2.2.2.1] at t4
  obtain ⟨ta, tc, rfl, _, _⟩ := t4.shape
  have HP4 := hid (And.intro p4 g4)
  clear p3 g3 b3 p4 t4 g4 b4 c4 u4
  go_wp2_with fail
  obtain ⟨p4, g4⟩ := HP4.out
  obtain ⟨p3, g3, b3⟩ := HP3.out
  refine (collect_ok (d := 3) H.out.2.2.2.2.1 (by omega) ((p3.grew g4).grew (Grew.alloc w4 (.cells #[.int .i64 2] 3))) (Ow.one w4 2) (by simp) H.out.2.2.2.2.2.2.2.2.2.1).mono ?_
  rintro e w5 ⟨ob5, fp5, tv5, rfl, p5, t5, g5, b5, c5⟩
  rw [H.out.2.2.2.2.2.2.2.2.1] at t5
  obtain ⟨g, cap, rfl, hcap, _, _, hcell⟩ := t5.at (by simp)
  have hc0 : w5.cell? ⟨g, 0, none⟩ = some (Kv 0) := (hcell 0 (by simp)).1
  have hus4 := used_any ((p4.grew (Grew.alloc w4 (.cells #[.int .i64 2] 3))).grew g5)
  have hus5 := used_any p5
  rw [H.out.2.2.2.2.2.1] at hus4
  rw [H.out.2.2.2.2.2.2.2.1] at hus5
  have hG : Grew w w5 := by
    obtain ⟨p1, g1, b1⟩ := HP.out
    obtain ⟨p2, g2, b2⟩ := HP2.out
    have z1 := g1.size
    have f1 := grew_step (grew_step g1 (Grew.alloc w1 (.cells #[.int .i64 1] 3)) (fun _ f => f.elim)) g2 b1
    have z2 := f1.size
    have f2 := grew_step (grew_step f1 (Grew.alloc w2 (.cells #[.int .i64 2] 3)) (fun _ f => f.elim)) g3 (fun i hi => by
      rcases b2 i hi with q | q
      · exact b1 i q
      · simp at q; omega)
    exact ((f2.trans g4 (fun _ _ f => f)).trans (Grew.alloc w4 (.cells #[.int .i64 2] 3)) (fun _ _ f => f)).trans g5 (fun _ _ f => f)
  have HG := hid hG
  clear hG p3 g3 b3 p4 g4 p5 t5 g5 b5 c5 hcell H HP HP2 HP3 HP4
  go_wp2_with (first | (go_at_call_of 27 (Value.pointer (some ⟨ob, 0, none⟩)); refine hus4.mono ?_; rintro e w' ⟨rfl, rfl⟩) | (go_at_call_of 27 (Value.pointer (some ⟨ob5, 0, none⟩)); refine hus5.mono ?_; rintro e w' ⟨rfl, rfl⟩))
  go_ret
  exact ⟨rfl, HG.out⟩
end Go.Proofs.Ytjhdnbediipibaa
