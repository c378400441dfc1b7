import Derived.Test.YtddcfnjmppijjaaM11
import Derived.Test.YtddcfnjmppijjaaM12
import Derived.Test.YtddcfnjmppijjaaM13
import Derived.Test.YtddcfnjmppijjaaM14
import Derived.Test.YtddcfnjmppijjaaM15
import Derived.Test.YtddcfnjmppijjaaM17
import Derived.Test.YtddcfnjmppijjaaM18
import Derived.Test.YtddcfnjmppijjaaM19
import Derived.Test.YtddcfnjmppijjaaM20
/-! Make, of any raw term. -/
namespace Go.Proofs.Ytddcfnjmppijjaa
open Go.RowKit

theorem make_ok {w : World} {mb : Nat} {va : Value} {l : List RT} (h : Parts w mb va l) : MkOk w mb va l := by
  intro w' k n N vs S hF hM hN hS hSn hSl
  obtain ⟨kk, hkk, -, hp⟩ := place5 k 16 (by omega) (by omega) _ rfl
  have hp' : W16 k kk := hp
  obtain ⟨ad, cap, rfl, -⟩ := id h
  have hva : ∃ a m c, Value.slice ad l.length cap = .slice a m c := ⟨_, _, _, rfl⟩
  have hvs : ∃ a m c, vs = .slice a m c := by obtain ⟨a, c, e, -⟩ := hS.shape; exact ⟨a, _, c, e⟩
  have hcase : kk = 0 ∨ kk = 1 ∨ (kk = 2 ∨ kk = 3) ∨ kk = 4 ∨ kk = 5 ∨ kk = 6 ∨ kk = 7 ∨ kk = 8 ∨ kk = 9 ∨ kk = 10 ∨ kk = 11 ∨ kk = 12 ∨ kk = 13 ∨ kk = 14 ∨ kk = 15 := by omega
  rcases hcase with rfl | rfl | e | e | e | e | e | e | e | e | e | e | e | e | e
  · exact make_0 k n N vs S hva hp' hM hvs _ (by omega)
  · exact make_1 k n N vs S hva hp' hM hvs _ (by omega)
  · exact make_2 k n N vs S hva kk e hp' hM hS (by omega) _ (by omega)
  · exact make_4 h k n N vs S kk e hp' hF hM hN hS hSn hSl
  · exact make_5 h k n N vs S kk e hp' hF hM hN hS hSn hSl
  · exact make_6 h k n N vs S kk e hp' hF hM hN hS hSn hSl
  · exact make_7 h k n N vs S kk e hp' hF hM hN hS hSn hSl
  · exact make_8 h k n N vs S kk e hp' hF hM hN hS hSn hSl
  · exact make_9 h k n N vs S kk e hp' hF hM hN hS hSn hSl
  · exact make_10 h k n N vs S kk e hp' hF hM hN hS hSn hSl
  · exact make_11 h k n N vs S kk e hp' hF hM hN hS hSn hSl
  · exact make_12 h k n N vs S kk e hp' hF hM hN hS hSn hSl
  · exact make_13 h k n N vs S kk e hp' hF hM hN hS hSn hSl
  · exact make_14 h k n N vs S kk e hp' hF hM hN hS hSn hSl
  · exact make_15 h k n N vs S kk e hp' hF hM hN hS hSn hSl

/-- Make -/
theorem make_any {w : World} {mb : Nat} {va : Value} {l : List RT} (h : RRow w (fun b => b = mb) va l) : MkOk w mb va l := by
  refine RRow.ind (P := fun va l => MkOk w mb va l) ?_ ?_ h
  · intro ad cap hm
    exact make_ok ⟨ad, cap, rfl, Nat.zero_le _, hm, fun i r hr => by simp at hr⟩
  · intro l g o cap h1 h2 h3 h4
    refine make_ok ⟨_, cap, rfl, h1, h2, fun i r hr => ?_⟩
    obtain ⟨aa, ca, he, hm⟩ := h4 i r hr
    exact ⟨g, o, aa, ca, rfl, h3, he, hm⟩
end Go.Proofs.Ytddcfnjmppijjaa
