import Derived.Test.YtddcfnjmppijjaaA1
/-! core.Size, thunkref5.Size: how much a term is. -/
namespace Go.Proofs.Ytddcfnjmppijjaa
open Go.RowKit

theorem sizes_take (l : List X) (i : Nat) (x : X) (hx : l[i]? = some x) : sizes (l.take (i + 1)) = sizes (l.take i) + x.size ∧ sizes (l.take (i + 1)) ≤ sizes l := by
  induction l generalizing i with
  | nil => simp at hx
  | cons y r ih =>
    cases i with
    | zero => simp at hx; subst hx; simp [sizes]
    | succ i =>
      have := ih i (by simpa using hx)
      simp only [List.take_succ_cons, sizes]
      omega
theorem X.size_eq (x : X) : x.size = 1 + sizes x.parts := by cases x; rfl

theorem at_of_lt {α : Type} {l : List α} {i : Nat} (h : i < l.length) : ∃ x, l[i]? = some x := ⟨l[i], List.getElem?_eq_getElem h⟩

set_option maxHeartbeats 1000000 in
theorem size_row {w : World} {D : Nat → Prop} {v : Value} {l : List X} (h : Row w D v l) : ∀ w', Grew w w' → ∀ k t vn, 1 + sizes l ≤ 4611686018427387904 →
    Calls Try.prog 39 #[.agg #[k, t, vn, v]] w' fun e w'' => e = .returned (Kv ((1 + sizes l : Nat) : Int)) ∧ Grew w' w'' := by
  refine Row.ind (P := fun v l => ∀ w', Grew w w' → ∀ k t vn, 1 + sizes l ≤ 4611686018427387904 →
    Calls Try.prog 39 #[.agg #[k, t, vn, v]] w' fun e w'' => e = .returned (Kv ((1 + sizes l : Nat) : Int)) ∧ Grew w' w'') ?_ ?_ h
  · intro ad cap w' hw k t vn hs
    go_enter Try.func39, Try.ntmps39
    go_wp2
    go_loopw [3, 9] (fun a b wr => ∃ i : Nat, i ≤ 0 ∧ b = .int .i64 i ∧ a = Kv ((1 : Nat) : Int) ∧ Grew w' wr) (fun _ i _ => 0 - (intOf i).toNat)
    case atStart => exact ⟨0, Nat.le_refl _, rfl, rfl, ((Fr.refl _ _).alloc _)⟩
    case round =>
      obtain ⟨i, hi, rfl, rfl, hgr⟩ := hrel
      obtain rfl : i = 0 := by omega
      go_wp2
      go_ret
      exact ⟨rfl, hgr⟩
  · intro l g o cap hn hm hD H w' hw k t vn hs
    have HH := hid H
    have HW := hid hw
    have HS := hid hs
    clear H hw hD hs
    replace hm : cap ≤ 9223372036854775807 := hm
    go_enter Try.func39, Try.ntmps39
    go_wp2
    go_loopw [3, 9] (fun a b wr => ∃ i : Nat, i ≤ l.length ∧ b = .int .i64 i ∧ a = Kv ((1 + sizes (l.take i) : Nat) : Int) ∧ Grew w' wr) (fun _ i _ => l.length - (intOf i).toNat)
    case atStart => exact ⟨0, Nat.zero_le _, rfl, rfl, ((Fr.refl _ _).alloc _)⟩
    case round =>
      obtain ⟨i, hi, rfl, rfl, hgr⟩ := hrel
      by_cases hlt : i < l.length
      · obtain ⟨x, hx⟩ := at_of_lt hlt
        obtain ⟨an, cn, aa, ca, he, hc⟩ := HH.out i x hx
        have hgw := (HW.out.trans hgr (fun _ _ f => f))
        have hff : ∀ b, (fun _ : Nat => False) b → False := fun _ f => f
        have c0 := hgw.cell he.c0 (fun f => f)
        have c1 := hgw.cell he.c1 (fun f => f)
        have c2 := hgw.cell he.c2 (fun f => f)
        have c3 := hgw.cell he.c3 (fun f => f)
        obtain ⟨hst, hle⟩ := sizes_take l i x hx
        obtain ⟨kk, tt, ns, a⟩ := x
        simp only [X.kind, X.text, X.names, X.parts, X.size] at c0 c1 c2 c3 hc hst
        have hsz := HS.out
        have hs2 : 1 + sizes a ≤ 4611686018427387904 := by omega
        generalize h1 : sizes (l.take (i + 1)) = s1 at hst hle
        generalize sizes a = sa at hst hc hs2
        generalize sizes (l.take i) = s0 at hst
        subst hst
        have H1 := hid h1
        clear h1
        have hs3 : s0 + (1 + sa) ≤ 4611686018427387904 := by omega
        have HC := hid hc
        have HGW := hid hgw
        have HG := hid hgr
        have HL := hid hx
        clear hc hgw hgr he hle hsz hff hx
        go_wp2_with (go_at_call 39; refine (HC.out _ (HGW.out.alloc _) _ _ _ hs2).mono ?_; rintro e w'' ⟨rfl, hg2⟩)
        go_roundw
        case rel =>
          refine ⟨i + 1, by omega, by go_num, ?_, (HG.out.alloc _).trans hg2 (fun _ _ f => f)⟩
          rw [H1.out]
          simp [Kv]; omega
        case measure => simp [intOf]; omega
      · obtain rfl : i = l.length := by omega
        rw [List.take_length]
        go_wp2
        go_ret
        exact ⟨rfl, hgr⟩
end Go.Proofs.Ytddcfnjmppijjaa
