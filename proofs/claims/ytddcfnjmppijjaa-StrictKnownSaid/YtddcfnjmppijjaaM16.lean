import Derived.Test.YtddcfnjmppijjaaM10
/-! thunkref5.Arity; the primitives' table. -/
namespace Go.Proofs.Ytddcfnjmppijjaa
open Go.RowKit

def tab18 : List Str := twosL ++ onesL
abbrev arr18 : Array Value := #[.string ⟨#[43]⟩, .string ⟨#[45]⟩, .string ⟨#[42]⟩, .string ⟨#[113, 117, 111, 116, 105, 101, 110, 116]⟩, .string ⟨#[114, 101, 109, 97, 105, 110, 100, 101, 114]⟩, .string ⟨#[60]⟩, .string ⟨#[61]⟩, .string ⟨#[101, 113, 63]⟩, .string ⟨#[99, 111, 110, 115]⟩, .string ⟨#[115, 101, 113]⟩, .string ⟨#[99, 97, 114]⟩, .string ⟨#[99, 100, 114]⟩, .string ⟨#[110, 117, 108, 108, 63]⟩, .string ⟨#[112, 97, 105, 114, 63]⟩, .string ⟨#[110, 111, 116]⟩, .string ⟨#[105, 110, 116, 101, 103, 101, 114, 63]⟩, .string ⟨#[115, 121, 109, 98, 111, 108, 63]⟩, .string ⟨#[101, 114, 114, 111, 114]⟩]
theorem cells18 (w : World) (k : Nat) (s : Str) (hs : tab18[k]? = some s) (o : Nat) (ho : o = w.heap.size) : (w.alloc (.cells arr18 9)).cell? ⟨o, k, none⟩ = some (St s) := by
  subst ho
  have h : tab18.map St = arr18.toList := rfl
  simp only [World.cell?, heap_alloc_new]
  rw [← Array.getElem?_toList, ← h, List.getElem?_map, hs]
  rfl
theorem ar_at : ∀ k : Nat, k < 18 → ∀ s : Str, s ∈ tab18[k]? → ar s = if k < 10 then 2 else 1 := by decide
theorem ar_none (s : Str) (h : ∀ (k : Nat) (x : Str), tab18[k]? = some x → x ≠ s) : ar s = 0 := by
  have h1 : s ∉ tab18 := fun hm => by
    obtain ⟨k, hk⟩ := List.mem_iff_getElem?.1 hm
    exact h k s hk rfl
  have h2 : s ∉ twosL := fun hm => h1 (List.mem_append_left _ hm)
  have h3 : s ∉ onesL := fun hm => h1 (List.mem_append_right _ hm)
  simp [ar, h2, h3]

set_option maxHeartbeats 2000000 in
set_option maxRecDepth 100000 in
theorem refar_any (w : World) (s : Str) : Calls Try.prog 37 #[St s] w fun e w' => e = .returned (Kv (ar s)) ∧ Grew w w' := by
  have HC := hid (fun (k : Nat) (x : Str) hk => cells18 w k x hk w.heap.size rfl)
  have HG := hid (fun o => (Fr.refl (fun _ => False) w).alloc o)
  go_enter Try.func37, Try.ntmps37
  go_wp2
  go_loop [4] (fun vi => ∃ i : Nat, i ≤ 18 ∧ vi = .int .i64 i ∧ ∀ (k : Nat) (x : Str), k < i → tab18[k]? = some x → x ≠ s) (fun vi => 18 - (intOf vi).toNat)
  case atStart => exact ⟨0, by omega, rfl, fun k x h => by omega⟩
  case round =>
    obtain ⟨i, hi, rfl, hno⟩ := hrel
    have HNO := hid hno
    clear hno
    by_cases hlt : i < 18
    · obtain ⟨x, hx⟩ : ∃ x, tab18[i]? = some x := ⟨tab18[i], List.getElem?_eq_getElem _⟩
      have hc := HC.out i x hx
      have HX := hid hx
      clear hx
      by_cases he : x = s
      · subst he
        have har := ar_at i hlt x HX.out
        by_cases h10 : i < 10
        · rw [if_pos h10] at har
          have HAR := hid har
          clear har
          go_wp2
          go_ret
          exact ⟨by rw [HAR.out]; rfl, HG.out _⟩
        · rw [if_neg h10] at har
          have HAR := hid har
          clear har
          go_wp2
          go_ret
          exact ⟨by rw [HAR.out]; rfl, HG.out _⟩
      · have hbe : (x == s) = false := by simpa using he
        have HE := hid he
        clear he
        go_wp2
        go_round
        case rel =>
          refine ⟨i + 1, by omega, by go_num, fun k y hk hy => ?_⟩
          by_cases e : k = i
          · subst e
            rw [HX.out] at hy; cases hy; exact HE.out
          · exact HNO.out k y (by omega) hy
        case measure => simp [intOf]; omega
    · have har := ar_none s (fun k x hx => by
        have : k < 18 := by
          have := (List.getElem?_eq_some_iff.1 hx).1
          simpa [tab18, twosL, onesL] using this
        exact HNO.out k x (by omega) hx)
      have HAR := hid har
      clear har
      obtain rfl : i = 18 := by omega
      go_wp2
      go_ret
      exact ⟨by rw [HAR.out]; rfl, HG.out _⟩

def tab21 : List Str := twosL ++ onesL ++ [[99, 111, 110, 115], [43], [99, 97, 114]]
abbrev arr21 : Array Value := #[.string ⟨#[43]⟩, .string ⟨#[45]⟩, .string ⟨#[42]⟩, .string ⟨#[113, 117, 111, 116, 105, 101, 110, 116]⟩, .string ⟨#[114, 101, 109, 97, 105, 110, 100, 101, 114]⟩, .string ⟨#[60]⟩, .string ⟨#[61]⟩, .string ⟨#[101, 113, 63]⟩, .string ⟨#[99, 111, 110, 115]⟩, .string ⟨#[115, 101, 113]⟩, .string ⟨#[99, 97, 114]⟩, .string ⟨#[99, 100, 114]⟩, .string ⟨#[110, 117, 108, 108, 63]⟩, .string ⟨#[112, 97, 105, 114, 63]⟩, .string ⟨#[110, 111, 116]⟩, .string ⟨#[105, 110, 116, 101, 103, 101, 114, 63]⟩, .string ⟨#[115, 121, 109, 98, 111, 108, 63]⟩, .string ⟨#[101, 114, 114, 111, 114]⟩, .string ⟨#[99, 111, 110, 115]⟩, .string ⟨#[43]⟩, .string ⟨#[99, 97, 114]⟩]
theorem cells21 (w : World) (k : Nat) (s : Str) (hs : tab21[k]? = some s) (o : Nat) (ho : o = w.heap.size) : (w.alloc (.cells arr21 9)).cell? ⟨o, k, none⟩ = some (St s) := by
  subst ho
  have h : tab21.map St = arr21.toList := rfl
  simp only [World.cell?, heap_alloc_new]
  rw [← Array.getElem?_toList, ← h, List.getElem?_map, hs]
  rfl
theorem prim_ok : ∀ s ∈ tab21, (s ∈ twosL ∧ ar s = 2) ∨ (s ∈ onesL ∧ ar s = 1) := by decide
theorem prim_at (w : World) (o : Nat) (ho : o = w.heap.size) (k : Nat) (hk : k < 21) : ∃ s, ((s ∈ twosL ∧ ar s = 2) ∨ (s ∈ onesL ∧ ar s = 1)) ∧ (w.alloc (.cells arr21 9)).cell? ⟨o, k, none⟩ = some (St s) := by
  obtain ⟨s, hs⟩ : ∃ s, tab21[k]? = some s := ⟨tab21[k]'(by simpa [tab21, twosL, onesL] using hk), List.getElem?_eq_getElem _⟩
  exact ⟨s, prim_ok s (List.mem_of_getElem? hs), cells21 w k s hs o ho⟩

theorem AS.grew {w' Wo : World} {mb N0 b B : Nat} {kd : Int} {t : Str} {vN : Value} {k n : Int} {va : Value} {S' : List Str} {l : List RT} {j : Nat} {vA : Value} {xs : List X} {wr w2 : World}
    (h : AS w' mb N0 b B Wo kd t vN k n va S' l j vA xs wr) (g : Grew wr w2) : AS w' mb N0 b B Wo kd t vN k n va S' l j vA xs w2 := by
  obtain ⟨fr, ⟨N1, hm, h1, h2⟩, raw, res, box, ox, len, good, size, base, old, oldB⟩ := h
  exact ⟨fr.trans g (fun _ _ e => e.elim), ⟨N1, hm.grew g, h1, h2⟩, g.get raw (fun f => f), g.get res (fun f => f), g.get box (fun f => f), ox.kept g (fun _ e => e.elim), len, good, size, Nat.le_trans base g.size, old.trans g (fun _ _ e => e.elim), oldB⟩
end Go.Proofs.Ytddcfnjmppijjaa
