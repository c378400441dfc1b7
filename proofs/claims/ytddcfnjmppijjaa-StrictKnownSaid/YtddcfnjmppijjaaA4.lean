import Derived.Test.YtddcfnjmppijjaaB1
import Derived.Test.YtddcfnjmppijjaaS1
/-! core.has, core.Arity. -/
namespace Go.Proofs.Ytddcfnjmppijjaa
open Go.RowKit

/-- the library's own number is there -/
def Gl (w : World) : Prop := ∃ m, w.cell? ⟨0, 0, none⟩ = some (.int .i64 m)
theorem Gl.kept {F : Nat → Prop} {w w' : World} (h : Gl w) (k : Fr F w w') (hF : ¬ F 0) : Gl w' := by
  obtain ⟨m, hm⟩ := h
  exact ⟨m, k.cell hm hF⟩

theorem contains_any {w : World} (h : Gl w) (s sub : Str) (hs : s.length < 4294967281) :
    Calls Try.prog 86 #[St s, St sub] w fun e w' => e = .returned (.bool (Lib.contains s sub)) ∧ w' = w := by
  obtain ⟨m, hm⟩ := h
  exact Try.strings_Contains ⟨s.toArray⟩ ⟨sub.toArray⟩ m w (by simpa [ByteArray.size] using hs) hm

set_option maxHeartbeats 1000000 in
theorem has_any {w : World} (h : Gl w) (words s : Str) (hw : words.length < 4294967281) (hs : s.length ≤ 1000000) :
    Calls Try.prog 60 #[St words, St s] w fun e w' => e = .returned (.bool (hasW words s)) ∧ w' = w := by
  have h1 := contains_any h s [32] (by omega)
  have h2 := contains_any h words (32 :: (s ++ [32])) hw
  have e2 : (({ data := #[32] } : ByteArray) ++ ⟨s.toArray⟩ ++ { data := #[32] }) = ⟨(32 :: (s ++ [32])).toArray⟩ := by simp [ByteArray.mk_append_mk]
  unfold St at h2
  rw [← e2] at h2
  clear e2
  have hl : (⟨s.toArray⟩ : ByteArray).size ≤ 1000000 := by simpa [ByteArray.size] using hs
  unfold hasW
  by_cases h0 : s = []
  · subst h0
    go_enter Try.func60, Try.ntmps60
    go_wp2
    go_ret
    exact ⟨rfl, rfl⟩
  · have e0 : (s == []) = false := by simpa using h0
    rw [e0]
    cases hc : Lib.contains s [32] with
    | true =>
      rw [hc] at h1
      go_enter Try.func60, Try.ntmps60
      go_wp2_with (go_at_call 86; refine h1.mono ?_; rintro e w' ⟨rfl, rfl⟩)
      go_ret
      exact ⟨rfl, rfl⟩
    | false =>
      rw [hc] at h1
      go_enter Try.func60, Try.ntmps60
      go_wp2_with (go_at_call 86; refine h1.mono ?_; rintro e w' ⟨rfl, hw'⟩; clear h1)
      subst hw'
      refine h2.mono ?_
      rintro e w' ⟨rfl, rfl⟩
      clear h2
      go_wp2
      go_ret
      exact ⟨rfl, rfl⟩

theorem twos_eq : (St (wordsOf twosL)) = .string { data := #[32, 43, 32, 45, 32, 42, 32, 113, 117, 111, 116, 105, 101, 110, 116, 32, 114, 101, 109, 97, 105, 110, 100, 101, 114, 32, 60, 32, 61, 32, 101, 113, 63, 32, 99, 111, 110, 115, 32, 115, 101, 113, 32] } := rfl
theorem ones_eq : (St (wordsOf onesL)) = .string { data := #[32, 99, 97, 114, 32, 99, 100, 114, 32, 110, 117, 108, 108, 63, 32, 112, 97, 105, 114, 63, 32, 110, 111, 116, 32, 105, 110, 116, 101, 103, 101, 114, 63, 32, 115, 121, 109, 98, 111, 108, 63, 32, 101, 114, 114, 111, 114, 32] } := rfl

set_option maxHeartbeats 1000000 in
/-- core.Arity -/
theorem arity_any {w : World} (h : Gl w) (s : Str) (hs : s.length ≤ 1000000) :
    Calls Try.prog 36 #[St s] w fun e w' => e = .returned (Kv (ar s)) ∧ w' = w := by
  have h1 := has_any h (wordsOf twosL) s (by decide) hs
  have h2 := has_any h (wordsOf onesL) s (by decide) hs
  rw [has_twos] at h1
  rw [has_ones] at h2
  rw [twos_eq] at h1
  rw [ones_eq] at h2
  unfold ar
  by_cases g1 : s ∈ twosL
  · have e1 : decide (s ∈ twosL) = true := by simpa using g1
    rw [e1] at h1
    rw [if_pos g1]
    clear h2 e1 g1
    go_enter Try.func36, Try.ntmps36
    go_wp2_with (go_at_call 60; refine h1.mono ?_; rintro e w' ⟨rfl, rfl⟩)
    go_ret
    exact ⟨rfl, rfl⟩
  · have e1 : decide (s ∈ twosL) = false := by simpa using g1
    rw [e1] at h1
    rw [if_neg g1]
    clear e1 g1
    by_cases g2 : s ∈ onesL
    · have e1 : decide (s ∈ onesL) = true := by simpa using g2
      rw [e1] at h2
      rw [if_pos g2]
      clear e1 g2
      go_enter Try.func36, Try.ntmps36
      go_wp2_with (go_at_call 60; first | (refine h1.mono ?_; rintro e w' ⟨rfl, rfl⟩; clear h1) | (refine h2.mono ?_; rintro e w' ⟨rfl, rfl⟩))
      go_ret
      exact ⟨rfl, rfl⟩
    · have e1 : decide (s ∈ onesL) = false := by simpa using g2
      rw [e1] at h2
      rw [if_neg g2]
      clear e1 g2
      go_enter Try.func36, Try.ntmps36
      go_wp2_with (go_at_call 60; first | (refine h1.mono ?_; rintro e w' ⟨rfl, rfl⟩; clear h1) | (refine h2.mono ?_; rintro e w' ⟨rfl, rfl⟩))
      go_ret
      exact ⟨rfl, rfl⟩
end Go.Proofs.Ytddcfnjmppijjaa
