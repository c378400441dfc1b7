import Derived.Test.YtjhdnbediipibaaK2
/-! Two heaps in a law's loop. -/
namespace Go.Proofs.Ytjhdnbediipibaa
open Go.RowKit

def TwoRel (w : World) (hb xb : Nat) (wr : World) : Prop := ∃ A fp, A.WF ∧ Two wr hb xb A fp ∧ Grew w wr ∧ ∀ b ∈ fp, w.heap.size ≤ b
theorem TwoRel.start {w w0 w1 w2 : World} {hb xb : Nat} {a : Int} {f1 f2 : List Nat} (h0 : 0 ≤ a) (h1 : a ≤ 1000000) (g0 : Grew w w0) (p1 : PH w1 hb ⟨[], 0, a⟩ f1) (g1 : Grew w0 w1) (b1 : ∀ b ∈ f1, w0.heap.size ≤ b)
    (p2 : RH w2 xb ⟨[], 0, a⟩ f2) (g2 : Grew w1 w2) (b2 : ∀ b ∈ f2, w1.heap.size ≤ b) : TwoRel w hb xb w2 := by
  have s0 := g0.size
  have s1 := g1.size
  refine ⟨_, f1 ++ f2, WF_new a h0 h1, ⟨f1, f2, rfl, p1.grew g2, p2, fun b hb hb' => ?_⟩, g0.trans (g1.trans g2 (fun _ _ f => f)) (fun _ _ f => f), fun b hb => ?_⟩
  · have a1 := p1.lt b hb
    have a2 := b2 b hb'
    omega
  · rcases List.mem_append.1 hb with e | e
    · have := b1 b e; omega
    · have := b2 b e; omega
theorem TwoRel.grew {w : World} {hb xb : Nat} {wr wx : World} (h : TwoRel w hb xb wr) (g : Grew wr wx) : TwoRel w hb xb wx := by
  obtain ⟨A, fp, h1, h2, h3, h4⟩ := h
  exact ⟨A, fp, h1, h2.grew g, h3.trans g (fun _ _ f => f), h4⟩
theorem TwoRel.step {w : World} {hb xb : Nat} {wr : World} (h : TwoRel w hb xb wr) (n raw : Int) :
    Calls Try.prog 41 #[.pointer (some ⟨hb, 0, none⟩), .pointer (some ⟨xb, 0, none⟩), .int .i64 n, .int .i64 raw] wr fun e w' => e = .returned (.bool true) ∧ TwoRel w hb xb w' := by
  obtain ⟨A, fp, h1, h2, h3, h4⟩ := h
  refine (step_any h2 h1 n raw).mono ?_
  rintro e w' ⟨rfl, A', q1, _, fp', q3, q4, q5⟩
  refine ⟨rfl, A', fp', q1, q3, grew_step h3 q4 h4, fun b hb => ?_⟩
  have := h3.size
  rcases q5 b hb with e | e
  · exact h4 b e
  · omega
theorem TwoRel.same {w : World} {hb xb : Nat} {wr : World} (h : TwoRel w hb xb wr) :
    Calls Try.prog 42 #[.pointer (some ⟨hb, 0, none⟩), .pointer (some ⟨xb, 0, none⟩)] wr fun e w' => e = .returned (.bool true) ∧ TwoRel w hb xb w' := by
  obtain ⟨A, fp, h1, h2, h3, h4⟩ := id h
  refine (same_any h2 h1).mono ?_
  rintro e w' ⟨rfl, g⟩
  exact ⟨rfl, h.grew g⟩
/-- where a given address is, told by both alike -/
theorem TwoRel.tell {w : World} {hb xb : Nat} {wr : World} (h : TwoRel w hb xb wr) (k : Int) : ∃ t f : Int,
    Calls Try.prog 26 #[.pointer (some ⟨hb, 0, none⟩), .int .i64 k] wr (fun e w' => e = .returned (Kv t) ∧ wr = w') ∧ Calls Try.prog 43 #[.pointer (some ⟨xb, 0, none⟩), .int .i64 k] wr (fun e w' => e = .returned (Kv t) ∧ wr = w') ∧
    Calls Try.prog 34 #[.pointer (some ⟨hb, 0, none⟩), .int .i64 k] wr (fun e w' => e = .returned (Kv f) ∧ wr = w') ∧ Calls Try.prog 44 #[.pointer (some ⟨xb, 0, none⟩), .int .i64 k] wr (fun e w' => e = .returned (Kv f) ∧ wr = w') := by
  obtain ⟨A, fp, h1, ⟨f1, f2, rfl, hp, hx, _⟩, _, _⟩ := h
  exact ⟨A.tag k, A.follow k, tag_any hp k, rtag_any hx h1.fine.few k, follow_any hp h1.shaped h1.fine.few k, rfollow_any hx h1.shaped h1.fine.few k⟩

/-- two pairs of heaps side by side -/
def FourRel (w : World) (hb xb gb yb : Nat) (wr : World) : Prop := ∃ A fp B fq, A.WF ∧ B.WF ∧ Two wr hb xb A fp ∧ Two wr gb yb B fq ∧ (∀ b ∈ fp, b ∉ fq) ∧ Grew w wr ∧ (∀ b ∈ fp, w.heap.size ≤ b) ∧ ∀ b ∈ fq, w.heap.size ≤ b
theorem FourRel.swap {w : World} {hb xb gb yb : Nat} {wr : World} (h : FourRel w hb xb gb yb wr) : FourRel w gb yb hb xb wr := by
  obtain ⟨A, fp, B, fq, h1, h2, h3, h4, h5, h6, h7, h8⟩ := h
  exact ⟨B, fq, A, fp, h2, h1, h4, h3, fun b hb hb' => h5 b hb' hb, h6, h8, h7⟩
theorem FourRel.grew {w : World} {hb xb gb yb : Nat} {wr wx : World} (h : FourRel w hb xb gb yb wr) (g : Grew wr wx) : FourRel w hb xb gb yb wx := by
  obtain ⟨A, fp, B, fq, h1, h2, h3, h4, h5, h6, h7⟩ := h
  exact ⟨A, fp, B, fq, h1, h2, h3.grew g, h4.grew g, h5, h6.trans g (fun _ _ f => f), h7⟩
theorem FourRel.start {w w1 w2 : World} {hb xb gb yb : Nat} (h : TwoRel w hb xb w1) (k : TwoRel w1 gb yb w2) : FourRel w hb xb gb yb w2 := by
  obtain ⟨A, fp, h1, h2, h3, h4⟩ := h
  obtain ⟨B, fq, k1, k2, k3, k4⟩ := k
  refine ⟨A, fp, B, fq, h1, k1, h2.grew k3, k2, fun b hb hb' => ?_, h3.trans k3 (fun _ _ f => f), h4, fun b hb => ?_⟩
  · have a1 := h2.lt b hb
    have a2 := k4 b hb'
    omega
  · have a1 := k4 b hb
    have a2 := h3.size
    omega
theorem FourRel.step {w : World} {hb xb gb yb : Nat} {wr : World} (h : FourRel w hb xb gb yb wr) (n raw : Int) :
    Calls Try.prog 41 #[.pointer (some ⟨hb, 0, none⟩), .pointer (some ⟨xb, 0, none⟩), .int .i64 n, .int .i64 raw] wr fun e w' => e = .returned (.bool true) ∧ FourRel w hb xb gb yb w' := by
  obtain ⟨A, fp, B, fq, h1, h2, h3, h4, h5, h6, h7, h8⟩ := h
  refine (step_any h3 h1 n raw).mono ?_
  rintro e w' ⟨rfl, A', q1, _, fp', q3, q4, q5⟩
  refine ⟨rfl, A', fp', B, fq, q1, h2, q3, h4.kept q4 (fun b hb hb' => h5 b hb' hb), fun b hb hb' => ?_, grew_step h6 q4 h7, fun b hb => ?_, h8⟩
  · rcases q5 b hb with e | e
    · exact h5 b e hb'
    · have := h4.lt b hb'; omega
  · have := h6.size
    rcases q5 b hb with e | e
    · exact h7 b e
    · omega
theorem FourRel.same {w : World} {hb xb gb yb : Nat} {wr : World} (h : FourRel w hb xb gb yb wr) :
    Calls Try.prog 42 #[.pointer (some ⟨hb, 0, none⟩), .pointer (some ⟨xb, 0, none⟩)] wr fun e w' => e = .returned (.bool true) ∧ FourRel w hb xb gb yb w' := by
  obtain ⟨A, fp, B, fq, h1, h2, h3, _⟩ := id h
  refine (same_any h3 h1).mono ?_
  rintro e w' ⟨rfl, g⟩
  exact ⟨rfl, h.grew g⟩
theorem FourRel.world {w : World} {hb xb gb yb : Nat} {wr : World} (h : FourRel w hb xb gb yb wr) : Grew w wr := by
  obtain ⟨A, fp, B, fq, h1, h2, h3, h4, h5, h6, _⟩ := h
  exact h6
theorem TwoRel.world {w : World} {hb xb : Nat} {wr : World} (h : TwoRel w hb xb wr) : Grew w wr := by
  obtain ⟨A, fp, h1, h2, h3, _⟩ := h
  exact h3
end Go.Proofs.Ytjhdnbediipibaa
