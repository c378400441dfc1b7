import Derived.Test.YtddcfnjmppijjaaA5
/-! within; the table of CoreTable. -/
namespace Go.Proofs.Ytddcfnjmppijjaa
open Go.RowKit

theorem emod_of_tmod (a n : Int) (hn : 0 < n) : (if a.tmod n < 0 then a.tmod n + n else a.tmod n) = a % n ∧ -n ≤ a.tmod n ∧ a.tmod n < n := by
  rw [Int.tmod_eq_emod]
  have := Int.emod_nonneg a (by omega : n ≠ 0)
  have := Int.emod_lt_of_pos a hn
  have hd : n ∣ a → a % n = 0 := Int.emod_eq_zero_of_dvd
  by_cases hc : 0 ≤ a ∨ n ∣ a
  · rw [if_pos hc]
    refine ⟨by split <;> omega, by omega, by omega⟩
  · rw [if_neg hc]
    have hne : a % n ≠ 0 := fun e => hc (.inr (Int.dvd_of_emod_eq_zero e))
    refine ⟨by split <;> omega, by omega, by omega⟩

theorem within5_any (a n : Int) (w : World) (hn : 0 < n) (hn2 : n ≤ 1000000) :
    Calls Try.prog 38 #[.int .i64 a, .int .i64 n] w fun e w' => e = .returned (Kv (a % n)) ∧ w = w' := by
  obtain ⟨h, h1, h2⟩ := emod_of_tmod a n hn
  have hne : (n == 0) = false := by simp; omega
  have hw1 : IntKind.i64.wrap (a.tmod n) = a.tmod n := IntWalk.i64_in _ (by omega)
  have hw2 : IntKind.i64.wrap (a.tmod n + n) = a.tmod n + n := IntWalk.i64_in _ (by omega)
  by_cases hc : a.tmod n < 0
  · rw [if_pos hc] at h
    have H := hid h
    clear h
    go_enter Try.func38, Try.ntmps38
    go_wp2
    go_ret
    exact ⟨by rw [← H.out]; rfl, rfl⟩
  · rw [if_neg hc] at h
    have H := hid h
    clear h
    go_enter Try.func38, Try.ntmps38
    go_wp2
    go_ret
    exact ⟨by rw [← H.out]; rfl, rfl⟩

theorem within8_any (a n : Int) (w : World) (hn : 0 < n) (hn2 : n ≤ 1000000) :
    Calls Try.prog 26 #[.int .i64 a, .int .i64 n] w fun e w' => e = .returned (Kv (a % n)) ∧ w = w' := by
  obtain ⟨h, h1, h2⟩ := emod_of_tmod a n hn
  have hne : (n == 0) = false := by simp; omega
  have hw1 : IntKind.i64.wrap (a.tmod n) = a.tmod n := IntWalk.i64_in _ (by omega)
  have hw2 : IntKind.i64.wrap (a.tmod n + n) = a.tmod n + n := IntWalk.i64_in _ (by omega)
  by_cases hc : a.tmod n < 0
  · rw [if_pos hc] at h
    have H := hid h
    clear h
    go_enter Try.func26, Try.ntmps26
    go_wp2
    go_ret
    exact ⟨by rw [← H.out]; rfl, rfl⟩
  · rw [if_neg hc] at h
    have H := hid h
    clear h
    go_enter Try.func26, Try.ntmps26
    go_wp2
    go_ret
    exact ⟨by rw [← H.out]; rfl, rfl⟩


/-- within, by what counts: a place of n -/
theorem place5 (a : Int) (n : Nat) (hn : 0 < n) (hn2 : n ≤ 1000000) (P : Program) (hP : P = Try.prog) : ∃ k : Nat, k < n ∧ a % (n : Int) = k ∧ ∀ w, Calls P 38 #[.int .i64 a, .int .i64 n] w fun e w' => e = .returned (Kv k) ∧ w = w' := by
  subst hP
  have h1 := Int.emod_nonneg a (by omega : (n : Int) ≠ 0)
  have h2 := Int.emod_lt_of_pos a (by omega : (0 : Int) < n)
  refine ⟨(a % n).toNat, by omega, by omega, fun w => ?_⟩
  have := within5_any a n w (by omega) (by omega)
  rwa [show ((a % (n : Int)).toNat : Int) = a % n by omega]

def tabL : List Str := [[43], [45], [42], [113, 117, 111, 116, 105, 101, 110, 116], [114, 101, 109, 97, 105, 110, 100, 101, 114], [60], [61], [101, 113, 63], [99, 111, 110, 115], [115, 101, 113], [99, 97, 114], [99, 100, 114], [110, 117, 108, 108, 63], [112, 97, 105, 114, 63], [110, 111, 116], [105, 110, 116, 101, 103, 101, 114, 63], [115, 121, 109, 98, 111, 108, 63], [101, 114, 114, 111, 114], [], [108, 97, 109, 98, 100, 97], [105, 102], [67, 97, 114], [43, 32], [105, 110, 112, 117, 116]]
theorem tab_cells (w : World) (k : Nat) (s : Str) (hs : tabL[k]? = some s) (o : Nat) (ho : o = w.heap.size) : (w.alloc (.cells #[.string ⟨#[43]⟩, .string ⟨#[45]⟩, .string ⟨#[42]⟩, .string ⟨#[113, 117, 111, 116, 105, 101, 110, 116]⟩, .string ⟨#[114, 101, 109, 97, 105, 110, 100, 101, 114]⟩, .string ⟨#[60]⟩, .string ⟨#[61]⟩, .string ⟨#[101, 113, 63]⟩, .string ⟨#[99, 111, 110, 115]⟩, .string ⟨#[115, 101, 113]⟩, .string ⟨#[99, 97, 114]⟩, .string ⟨#[99, 100, 114]⟩, .string ⟨#[110, 117, 108, 108, 63]⟩, .string ⟨#[112, 97, 105, 114, 63]⟩, .string ⟨#[110, 111, 116]⟩, .string ⟨#[105, 110, 116, 101, 103, 101, 114, 63]⟩, .string ⟨#[115, 121, 109, 98, 111, 108, 63]⟩, .string ⟨#[101, 114, 114, 111, 114]⟩, .string ⟨#[]⟩, .string ⟨#[108, 97, 109, 98, 100, 97]⟩, .string ⟨#[105, 102]⟩, .string ⟨#[67, 97, 114]⟩, .string ⟨#[43, 32]⟩, .string ⟨#[105, 110, 112, 117, 116]⟩] 9)).cell? ⟨o, k, none⟩ = some (St s) := by
  subst ho
  have h : tabL.map St = (#[.string ⟨#[43]⟩, .string ⟨#[45]⟩, .string ⟨#[42]⟩, .string ⟨#[113, 117, 111, 116, 105, 101, 110, 116]⟩, .string ⟨#[114, 101, 109, 97, 105, 110, 100, 101, 114]⟩, .string ⟨#[60]⟩, .string ⟨#[61]⟩, .string ⟨#[101, 113, 63]⟩, .string ⟨#[99, 111, 110, 115]⟩, .string ⟨#[115, 101, 113]⟩, .string ⟨#[99, 97, 114]⟩, .string ⟨#[99, 100, 114]⟩, .string ⟨#[110, 117, 108, 108, 63]⟩, .string ⟨#[112, 97, 105, 114, 63]⟩, .string ⟨#[110, 111, 116]⟩, .string ⟨#[105, 110, 116, 101, 103, 101, 114, 63]⟩, .string ⟨#[115, 121, 109, 98, 111, 108, 63]⟩, .string ⟨#[101, 114, 114, 111, 114]⟩, .string ⟨#[]⟩, .string ⟨#[108, 97, 109, 98, 100, 97]⟩, .string ⟨#[105, 102]⟩, .string ⟨#[67, 97, 114]⟩, .string ⟨#[43, 32]⟩, .string ⟨#[105, 110, 112, 117, 116]⟩] : Array Value).toList := rfl
  simp only [World.cell?, heap_alloc_new]
  rw [← Array.getElem?_toList, ← h, List.getElem?_map, hs]
  rfl

theorem tab_ar : ∀ k : Nat, k < 24 → ∀ s : Str, s ∈ tabL[k]? → s.length ≤ 1000000 ∧ ar s = if k < 10 then 2 else if k < 18 then 1 else 0 := by decide

set_option maxHeartbeats 4000000 in
set_option maxRecDepth 100000 in
theorem table_walk (a : Int) {w : World} (h : Gl w) : Calls Try.prog 9 #[.int .i64 a] w fun e w' => e = .returned (.bool true) ∧ Grew w w' := by
  have hk := known_any h
  obtain ⟨k, hk1, -, hp⟩ := place5 a 24 (by omega) (by omega) _ rfl
  obtain ⟨s, hs⟩ : ∃ s, tabL[k]? = some s := ⟨tabL[k]'(by simpa [tabL] using hk1), List.getElem?_eq_getElem _⟩
  have HC := hid (fun w => tab_cells w k s hs w.heap.size rfl)
  obtain ⟨hl, har⟩ := tab_ar k hk1 s hs
  have HA := hid (fun (w' : World) (g : Grew w w') => arity_any (h.grew g) s hl)
  have HR := hid har
  clear h hs hl har
  go_enter Try.func9, Try.ntmps9
  go_wp2_with (first | (go_at_call 32; refine hk.mono ?_; rintro e w1 ⟨rfl, hg1⟩; have HK := HC.out w1) | (go_at_call 38; refine (hp _).mono ?_; rintro e w2 ⟨rfl, rfl⟩) | (go_at_call 36; refine (HA.out _ (hg1.alloc _)).mono ?_; rintro e w3 ⟨rfl, rfl⟩; have har := HR.out))
  all_goals
    go_ret
    exact ⟨rfl, hg1.alloc _⟩
end Go.Proofs.Ytddcfnjmppijjaa
