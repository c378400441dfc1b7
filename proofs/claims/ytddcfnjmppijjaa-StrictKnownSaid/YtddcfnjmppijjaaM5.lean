import Derived.Test.YtddcfnjmppijjaaM4
/-! Make, where what is made has no parts. -/
namespace Go.Proofs.Ytddcfnjmppijjaa
open Go.RowKit

theorem part_any {w : World} {mb : Nat} {va : Value} {l : List RT} (h : Parts w mb va l) {w' : World} (k n : Int) (N : Nat) (vs : Value) (S : List Str) (i : Nat) (hi : i ≤ 100) (hF : Fr (fun b => b = mb) w w') (hM : Mk w' mb N) (hN : N + pn l i ≤ 900000) (hS : Nm w' (fun b => b = mb) vs S) (hSn : ∀ s ∈ S, Nme s) (hSl : S.length + pn l i ≤ 900000) :
    Calls Try.prog 56 #[.pointer (some ⟨mb, 0, none⟩), .agg #[Kv k, Kv n, va], .int .i64 i, vs] w' (MkPost w' mb N S (pn l i)) := by
  unfold pn at *
  cases hr : l[i]? with
  | none =>
    rw [hr] at hN hSl
    exact part_const h k n N vs S i hi hr hM hS (by simp only at hSl; omega)
  | some r =>
    rw [hr] at hN hSl
    exact part_make h k n N vs S i r hr hF hM hN hS hSn hSl

/-- the head of all: within(r.K, 16) -/
def W16 (k : Int) (kk : Nat) : Prop := ∀ w, Calls Try.prog 38 #[.int .i64 k, .int .i64 16] w fun e w' => e = .returned (Kv kk) ∧ w = w'

/-- the numbers -/
def numL : List Str := [[48], [49], [45, 53], [55], [49, 48, 48, 48, 48, 48, 48, 48, 48, 48, 48, 48, 48, 48, 48, 48, 48, 48, 48, 48, 48]]
abbrev numA : Array Value := #[.string ⟨#[48]⟩, .string ⟨#[49]⟩, .string ⟨#[45, 53]⟩, .string ⟨#[55]⟩, .string ⟨#[49, 48, 48, 48, 48, 48, 48, 48, 48, 48, 48, 48, 48, 48, 48, 48, 48, 48, 48, 48, 48]⟩]
theorem num_cells (w : World) (o : Nat) (ho : o = w.heap.size) (k : Nat) (hk : k < 5) : ∃ s ∈ intsL, (w.alloc (.cells #[.string ⟨#[48]⟩, .string ⟨#[49]⟩, .string ⟨#[45, 53]⟩, .string ⟨#[55]⟩, .string ⟨#[49, 48, 48, 48, 48, 48, 48, 48, 48, 48, 48, 48, 48, 48, 48, 48, 48, 48, 48, 48, 48]⟩] 9)).cell? ⟨o, k, none⟩ = some (St s) := by
  subst ho
  obtain ⟨s, hs⟩ : ∃ s, numL[k]? = some s := ⟨numL[k], List.getElem?_eq_getElem _⟩
  refine ⟨s, ?_, ?_⟩
  · have hm := List.mem_of_getElem? hs
    revert hm
    have : ∀ s ∈ numL, s ∈ intsL := by decide
    exact this s
  · have h : numL.map St = numA.toList := rfl
    simp only [World.cell?, heap_alloc_new]
    rw [← Array.getElem?_toList, ← h, List.getElem?_map, hs]
    rfl

/-- what the box of a raw term and the fresh result hold -/
abbrev rawB (k n : Int) (va : Value) : Obj := .cells #[Kv k, Kv n, va] 59
abbrev newB : Obj := .cells #[.int .i64 0, .string ⟨#[]⟩, .slice none 0 0, .slice none 0 0] 28

set_option maxHeartbeats 1000000 in
set_option maxRecDepth 100000 in
theorem make_0 {va : Value} {mb : Nat} {w' : World} (k n : Int) (N : Nat) (vs : Value) (S : List Str) (hva : ∃ a m c, va = .slice a m c) (hp : W16 k 0) (hM : Mk w' mb N) (hvs : ∃ a m c, vs = .slice a m c) (c : Nat) (hc : 1 ≤ c) :
    Calls Try.prog 30 #[.pointer (some ⟨mb, 0, none⟩), .agg #[Kv k, Kv n, va], vs] w' (MkPost w' mb N S c) := by
  obtain ⟨a1, m1, c1, rfl⟩ := hva
  obtain ⟨a2, m2, c2, rfl⟩ := hvs
  unfold W16 at hp
  have HA := hid (fun (W : World) (b : Nat) (hg : Grew w' W) (hb0 : w'.heap.size ≤ b) (hb1 : b < W.heap.size) (k : Int) (t : Str) (hgd : Good S (.mk k t [] [])) => mk_atom (c := c) hg hM hb0 hgd hc hb1)
  have HG3 := hid (fun o1 o2 o3 => (((Fr.refl (fun _ => False) w').alloc o1).alloc o2).alloc o3)
  have w5 : ∀ a w, Calls Try.prog 38 #[.int .i64 a, .int .i64 5] w fun e w' => ∃ k : Nat, k < 5 ∧ e = .returned (Kv k) ∧ w = w' := fun a w => wn 5 (by omega) (by omega) a w
  have HK := hid (fun w o ho k hk => num_cells w o ho k hk)
  clear hM hc
  go_enter Try.func30, Try.ntmps30
  go_wp2_with (first | (go_at_call 38; with_reducible refine (hp _).mono ?_; rintro e w1 ⟨rfl, rfl⟩; clear hp) | (go_at_call 38; with_reducible refine (w5 _ _).mono ?_; rintro e w1 ⟨k5, hk5, rfl, rfl⟩; obtain ⟨t5, ht5, hc5⟩ := HK.out ((w'.alloc (rawB k n (.slice a1 m1 c1))).alloc newB) (w'.heap.size + 1 + 1) (by simp) k5 hk5; have HT := hid ht5; clear ht5))
  refine bodyPost_ret (res28 Try.results30 _ _ (w'.heap.size + 1) rfl (heap_a3 _ _ _ _)) rfl ?_
  exact HA.out _ (w'.heap.size + 1) (HG3.out _ _ _) (by omega) (by simp) 1 t5 (.int _ _ HT.out)

set_option maxHeartbeats 1000000 in
set_option maxRecDepth 100000 in
theorem make_1 {va : Value} {mb : Nat} {w' : World} (k n : Int) (N : Nat) (vs : Value) (S : List Str) (hva : ∃ a m c, va = .slice a m c) (hp : W16 k 1) (hM : Mk w' mb N) (hvs : ∃ a m c, vs = .slice a m c) (c : Nat) (hc : 1 ≤ c) :
    Calls Try.prog 30 #[.pointer (some ⟨mb, 0, none⟩), .agg #[Kv k, Kv n, va], vs] w' (MkPost w' mb N S c) := by
  obtain ⟨a1, m1, c1, rfl⟩ := hva
  obtain ⟨a2, m2, c2, rfl⟩ := hvs
  unfold W16 at hp
  have HA := hid (fun (W : World) (b : Nat) (hg : Grew w' W) (hb0 : w'.heap.size ≤ b) (hb1 : b < W.heap.size) (k : Int) (t : Str) (hgd : Good S (.mk k t [] [])) => mk_atom (c := c) hg hM hb0 hgd hc hb1)
  have HG3 := hid (fun o1 o2 o3 => (((Fr.refl (fun _ => False) w').alloc o1).alloc o2).alloc o3)
  have w4 : ∀ a w, Calls Try.prog 38 #[.int .i64 a, .int .i64 4] w fun e w' => ∃ k : Nat, k < 4 ∧ e = .returned (Kv k) ∧ w = w' := fun a w => wn 4 (by omega) (by omega) a w
  clear hM hc
  go_enter Try.func30, Try.ntmps30
  go_wp2_with (first | (go_at_call 38; with_reducible refine (hp _).mono ?_; rintro e w1 ⟨rfl, rfl⟩; clear hp) | (go_at_call 38; with_reducible refine (w4 _ _).mono ?_; rintro e w1 ⟨k4, hk4, rfl, rfl⟩; clear w4; obtain rfl | rfl | rfl | rfl : k4 = 0 ∨ k4 = 1 ∨ k4 = 2 ∨ k4 = 3 := by omega))
  · refine bodyPost_ret (res28 Try.results30 _ _ (w'.heap.size + 1) rfl (heap_a3 _ _ _ _)) rfl ?_
    exact HA.out _ (w'.heap.size + 1) (HG3.out _ _ _) (by omega) (by simp) 2 [35, 116] (.bool _ _ (.inl rfl))
  · refine bodyPost_ret (res28 Try.results30 _ _ (w'.heap.size + 1) rfl (heap_a3 _ _ _ _)) rfl ?_
    exact HA.out _ (w'.heap.size + 1) (HG3.out _ _ _) (by omega) (by simp) 2 [35, 102] (.bool _ _ (.inr rfl))
  · refine bodyPost_ret (res28 Try.results30 _ _ (w'.heap.size + 1) rfl (heap_a3 _ _ _ _)) rfl ?_
    exact HA.out _ (w'.heap.size + 1) (HG3.out _ _ _) (by omega) (by simp) 3 [] (.nil _)
  · refine bodyPost_ret (res28 Try.results30 _ _ (w'.heap.size + 1) rfl (heap_a3 _ _ _ _)) rfl ?_
    exact HA.out _ (w'.heap.size + 1) (HG3.out _ _ _) (by omega) (by simp) 4 [115] (.sym _)

set_option maxHeartbeats 1000000 in
set_option maxRecDepth 100000 in
theorem make_2 {va : Value} {mb : Nat} {w' : World} (k n : Int) (N : Nat) (vs : Value) (S : List Str) (hva : ∃ a m c, va = .slice a m c) (kk : Nat) (hkk : kk = 2 ∨ kk = 3) (hp : W16 k kk) (hM : Mk w' mb N) (hS : Nm w' (fun b => b = mb) vs S) (hSl : S.length ≤ 900000) (c : Nat) (hc : 1 ≤ c) :
    Calls Try.prog 30 #[.pointer (some ⟨mb, 0, none⟩), .agg #[Kv k, Kv n, va], vs] w' (MkPost w' mb N S c) := by
  obtain ⟨a1, m1, c1, rfl⟩ := hva
  unfold W16 at hp
  have HA := hid (fun (W : World) (b : Nat) (hg : Grew w' W) (hb0 : w'.heap.size ≤ b) (hb1 : b < W.heap.size) (k : Int) (t : Str) (hgd : Good S (.mk k t [] [])) => mk_atom (c := c) hg hM hb0 hgd hc hb1)
  have HG := hid (fun o1 o2 => ((Fr.refl (fun _ => False) w').alloc o1).alloc o2)
  by_cases h0 : S = []
  · subst h0
    obtain ⟨a2, c2, rfl, -⟩ := hS.shape
    clear hM hc hS
    rcases hkk with rfl | rfl
    all_goals
      go_enter Try.func30, Try.ntmps30
      go_wp2_with (first | (go_at_call 38; with_reducible refine (hp _).mono ?_; rintro e w1 ⟨rfl, rfl⟩; clear hp))
      refine bodyPost_ret (res28 Try.results30 _ _ (w'.heap.size + 1) rfl (heap_a2 _ _ _)) rfl ?_
      exact HA.out _ (w'.heap.size + 1) (HG.out _ _) (by omega) (by simp) 3 [] (.nil _)
  · obtain ⟨g, o, c2, rfl, hc1, hc2, -, hgl, hcell⟩ := hS.at h0
    have hlp : 0 < S.length := by cases S <;> simp_all
    have wS := fun a w => wn S.length hlp (by omega) a w
    have HC := hid hcell
    replace hc2 : c2 ≤ 9223372036854775807 := hc2
    have HM := hid hM
    clear hS hM hcell h0
    rcases hkk with rfl | rfl
    all_goals
      go_enter Try.func30, Try.ntmps30
      go_wp2_with (first | (go_at_call 38; with_reducible refine (hp _).mono ?_; rintro e w1 ⟨rfl, rfl⟩; clear hp) | (go_at_call 38; with_reducible refine (wS _ _).mono ?_; rintro e w1 ⟨ks, hks, rfl, rfl⟩; obtain ⟨s, hs, hcs⟩ := HC.out ks hks; have HT := hid hs; clear hs) | (go_at_call 28; refine (var_any _ _).mono ?_; rintro e w2 ⟨rfl, hgv⟩; have hb1 := hgv.get (heap_a2 _ _ _) (fun f => f); have f0 := frozen_of_get hb1 0; have f1 := frozen_of_get hb1 1; have f2 := frozen_of_get hb1 2; have f3 := frozen_of_get hb1 3; have d0 := cell_of_get hb1 0; have d1 := cell_of_get hb1 1; have d2 := cell_of_get hb1 2; have d3 := cell_of_get hb1 3; have HGV := hid hgv; clear hgv))
      refine bodyPost_ret (res28 Try.results30 _ _ (w'.heap.size + 1) rfl (set4_heap hb1 _ _ _ _)) rfl ?_
      obtain ⟨vn, va, e, hn, hr⟩ := rd_atom w2 (fun bb => bb < ((w'.alloc (rawB k n (.slice a1 m1 c1))).alloc newB).heap.size) 5 s
      cases e
      exact mk_done (x := .mk 5 s [] []) (HG.out _ _) (by omega) (by simp) (lt_of_get HM.out) (Grew.any HGV.out) hn hr (.var _ _ HT.out) hc ((HM.out.grew (HG.out _ _)).grew HGV.out) (Nat.le_refl _) (by omega) _ _ _ _
end Go.Proofs.Ytddcfnjmppijjaa
