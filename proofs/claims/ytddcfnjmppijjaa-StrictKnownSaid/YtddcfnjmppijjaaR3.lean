import Derived.Test.YtddcfnjmppijjaaR1
/-! Regions by facts, where guards are known. -/
namespace Go.Proofs.Ytddcfnjmppijjaa.Rg
open Go.RowKit

theorem OpGoal.plain {P : Program} {l : List Oper} {St : World → World → Prop} {w0 : World} {F : Tmp → Value → World → Prop} {o : Oper} (hg : guardSlot l o = none)
    (h : ∀ (a : Act) (w : World), St w0 w → Rd F a w o.op.operands.toList → Yields P o a w fun v w' => (∀ d, o.dst = some d → F d v w') ∧ St w w') : OpGoal P l St w0 F o := by
  intro a w hs hr
  rw [hg]
  exact h a w hs hr
theorem OpGoal.guarded {P : Program} {l : List Oper} {St : World → World → Prop} {w0 : World} {F : Tmp → Value → World → Prop} {o : Oper} {d : Tmp} {want : Bool} (hg : guardSlot l o = some (d, want))
    (h1 : ∀ v w, F d v w → v = .bool want)
    (h : ∀ (a : Act) (w : World), St w0 w → Rd F a w o.op.operands.toList → Yields P o a w fun v w' => (∀ d, o.dst = some d → F d v w') ∧ St w w') : OpGoal P l St w0 F o := by
  intro a w hs hr
  rw [hg]
  exact fun hf => ⟨fun _ => h a w hs hr, fun hn => absurd (h1 _ _ hf) hn⟩
/-- .. or known not to hold: the operation is passed over -/
theorem OpGoal.passed {P : Program} {l : List Oper} {St : World → World → Prop} {w0 : World} {F : Tmp → Value → World → Prop} {o : Oper} {d : Tmp} {want : Bool} (hg : guardSlot l o = some (d, want))
    (h1 : ∀ v w, F d v w → v ≠ .bool want) (h : ∀ w d, o.dst = some d → F d undef w) : OpGoal P l St w0 F o := by
  intro a w _ _
  rw [hg]
  exact fun hf => ⟨fun he => absurd he (h1 _ _ hf), fun _ d hd => h w d hd⟩
end Go.Proofs.Ytddcfnjmppijjaa.Rg
