import Derived.Test.YtddcfnjmppijjaaN3
import Derived.Test.YtddcfnjmppijjaaA2
import Derived.Test.YtddcfnjmppijjaaM7
/-! thunkref5.Size, Texts, Without. -/
namespace Go.Proofs.Ytddcfnjmppijjaa
open Go.RowKit

set_option maxHeartbeats 4000000 in
theorem refsize_core {w : World} {D : Nat → Prop} {av : Option Addr} {l : List X} {cap : Nat}
    (H : l ≠ [] → ∃ g o, av = some ⟨g, o, none⟩ ∧ ∀ i x, l[i]? = some x → ∃ an cn aa ca, El w D g (o + i * 4) x an cn aa ca ∧ ∀ w', Grew w w' → ∀ k t vn, 1 + sizes x.parts ≤ 4611686018427387904 →
      Calls Try.prog 46 #[.agg #[k, t, vn, .slice aa x.parts.length ca]] w' fun e w'' => e = .returned (Kv ((1 + sizes x.parts : Nat) : Int)) ∧ Grew w' w'') :
    l.length ≤ 1000000 → ∀ w', Grew w w' → ∀ k t vn, 1 + sizes l ≤ 4611686018427387904 →
      Calls Try.prog 46 #[.agg #[k, t, vn, .slice av l.length cap]] w' fun e w'' => e = .returned (Kv ((1 + sizes l : Nat) : Int)) ∧ Grew w' w'' := by
  intro hl w' hw k t vn hs
  have HH := hid H
  have HW := hid hw
  have HS := hid hs
  have HG := hid ((Fr.refl (fun _ => False) w').alloc (.cells #[k, t, vn, .slice av l.length cap] 28))
  clear H hw hs
  go_enter Try.func46, Try.ntmps46
  go_wp2
  go_loopw [3, 4] (fun a b wr => ∃ i : Nat, i ≤ l.length ∧ b = .int .i64 i ∧ a = Kv ((1 + sizes (l.take i) : Nat) : Int) ∧ Grew (w'.alloc (.cells #[k, t, vn, .slice av l.length cap] 28)) wr) (fun _ i _ => l.length - (intOf i).toNat)
  case atStart => exact ⟨0, Nat.zero_le _, rfl, rfl, Fr.refl _ _⟩
  case round =>
    obtain ⟨i, hi, rfl, rfl, hgr⟩ := hrel
    have e3 := hgr.cell (cell_of_get (heap_alloc_new w' (.cells #[k, t, vn, .slice av l.length cap] 28)) 3) (fun f => f)
    have hgw := HG.out.trans hgr (fun _ _ f => f)
    by_cases hlt : i < l.length
    · obtain ⟨x, hx⟩ := at_of_lt hlt
      obtain ⟨g, o, rfl, hel⟩ := HH.out (fun e => by rw [e] at hlt; simp at hlt)
      obtain ⟨an, cn, aa, ca, he, hc⟩ := hel i x hx
      have hg2 := HW.out.trans hgw (fun _ _ f => f)
      have c0 := hg2.cell he.c0 (fun f => f)
      have c1 := hg2.cell he.c1 (fun f => f)
      have c2 := hg2.cell he.c2 (fun f => f)
      have c3 := hg2.cell he.c3 (fun f => f)
      obtain ⟨hst, hle⟩ := sizes_take l i x hx
      have hxs := X.size_eq x
      have hsz := HS.out
      have hcall := hc wr hg2 (Kv x.kind) (St x.text) (.slice an x.names.length cn) (by omega)
      have HST := hid (show 1 + sizes (l.take (i + 1)) = 1 + sizes (l.take i) + (1 + sizes x.parts) by omega)
      have hb1 : 1 + sizes (l.take i) + (1 + sizes x.parts) ≤ 4611686018427387905 := by omega
      generalize 1 + sizes x.parts = sy at hcall HST hb1
      generalize 1 + sizes (l.take i) = s0 at HST hb1
      have HGR := hid hgr
      clear he hel hc hx hst hle hxs hsz hgr hgw hg2
      go_wp2_with (go_at_call 46; (with_reducible refine hcall.mono ?_); rintro e w4 ⟨rfl, hg4⟩; clear hcall)
      go_roundw
      case rel => exact ⟨i + 1, by omega, by go_num, by rw [HST.out]; go_num, HGR.out.trans hg4 (fun _ _ f => f)⟩
      case measure => simp [intOf]; omega
    · obtain rfl : i = l.length := by omega
      rw [List.take_length]
      have HGW := hid hgw
      clear hgr hgw
      go_wp2
      go_ret
      exact ⟨rfl, HGW.out⟩

theorem refsize_row {w : World} {D : Nat → Prop} {v : Value} {l : List X} (h : Row w D v l) : 1 + sizes l ≤ 1000000 → ∀ w', Grew w w' → ∀ k t vn,
    Calls Try.prog 46 #[.agg #[k, t, vn, v]] w' fun e w'' => e = .returned (Kv ((1 + sizes l : Nat) : Int)) ∧ Grew w' w'' := by
  have hlen : ∀ l : List X, l.length ≤ sizes l := by
    intro l
    induction l with
    | nil => simp
    | cons x r ih => have := X.size_eq x; simp only [sizes, List.length_cons]; omega
  refine Row.ind (P := fun v l => 1 + sizes l ≤ 1000000 → ∀ w', Grew w w' → ∀ k t vn, Calls Try.prog 46 #[.agg #[k, t, vn, v]] w' fun e w'' => e = .returned (Kv ((1 + sizes l : Nat) : Int)) ∧ Grew w' w'') ?_ ?_ h
  · intro ad cap hs w' hw k t vn
    exact refsize_core (w := w) (D := D) (av := ad) (l := []) (cap := cap) (fun e => absurd rfl e) (by simp) w' hw k t vn (by simp [sizes])
  · intro l g o cap _ _ _ H hs w' hw k t vn
    have := hlen l
    refine refsize_core (w := w) (D := D) (fun _ => ⟨g, o, rfl, fun i x hx => ?_⟩) (by omega) w' hw k t vn (by omega)
    obtain ⟨an, cn, aa, ca, he, hc⟩ := H i x hx
    obtain ⟨h1, h2⟩ := sizes_take l i x hx
    have h3 := X.size_eq x
    exact ⟨an, cn, aa, ca, he, fun w' hg k t vn _ => hc (by omega) w' hg k t vn⟩

theorem text_ne {x y : Str} (h : ¬ x = y) : ((⟨x.toArray⟩ : ByteArray) = ⟨y.toArray⟩) = False := by
  simp [h]

theorem take_eq_add {l m : List Str} {i : Nat} {x : Str} (hx : l[i]? = some x) (hy : m[i]? = some x) (h : l.take i = m.take i) : l.take (i + 1) = m.take (i + 1) := by
  rw [List.take_add_one, List.take_add_one, h, hx, hy]

set_option maxHeartbeats 4000000 in
/-- Texts -/
theorem texts_any {w : World} {D E : Nat → Prop} {a b : Value} {l m : List Str} (ha : Nm w D a l) (hb : Nm w E b m) : Calls Try.prog 31 #[a, b] w fun e w' => e = .returned (.bool (decide (l = m))) ∧ Grew w w' := by
  obtain ⟨aa, ca, rfl, ha1, ha2⟩ := ha.shape
  obtain ⟨ab, cb, rfl, hb1, hb2⟩ := hb.shape
  replace ha2 : ca ≤ 9223372036854775807 := ha2
  replace hb2 : cb ≤ 9223372036854775807 := hb2
  by_cases hlen : (l.length : Int) = m.length
  · have hA := hid (fun (h0 : l ≠ []) => ha.row h0)
    have hB := hid (fun (h0 : m ≠ []) => hb.row h0)
    have HL := hid (show l.length = m.length by omega)
    have HG := hid (Fr.refl (fun _ => False) w)
    clear ha hb
    go_enter Try.func31, Try.ntmps31
    go_wp2
    go_loopw [5] (fun i wr => ∃ j : Nat, j ≤ l.length ∧ i = .int .i64 j ∧ Grew w wr ∧ l.take j = m.take j) (fun i _ => l.length - (intOf i).toNat)
    case atStart => exact ⟨0, Nat.zero_le _, rfl, HG.out, rfl⟩
    case round =>
      obtain ⟨j, hj, rfl, hgr, hs⟩ := hrel
      have HS := hid hs
      clear hs
      by_cases hlt : j < l.length
      · obtain ⟨x, hx⟩ := at_of_lt hlt
        obtain ⟨y, hy⟩ := at_of_lt (l := m) (i := j) (by have := HL.out; omega)
        obtain ⟨g, o, c, e, -, -, -, hel⟩ := hA.out (fun e => by rw [e] at hlt; simp at hlt)
        obtain ⟨g', o', c', e', -, -, -, hel'⟩ := hB.out (fun e => by rw [e] at hy; simp at hy)
        simp only [Value.slice.injEq] at e e'
        obtain ⟨rfl, -, rfl⟩ := e
        obtain ⟨rfl, -, rfl⟩ := e'
        have c0 := hgr.cell (hel j x hx) (fun f => f)
        have d0 := hgr.cell (hel' j y hy) (fun f => f)
        have HGR := hid hgr
        by_cases hxy : x = y
        · subst hxy
          have HN := hid (take_eq_add hx hy HS.out)
          clear hx hy hel hel' HS hgr
          go_wp2
          go_quiet (fail)
          go_wp2
          go_roundw
          case rel => exact ⟨j + 1, by omega, by go_num, HGR.out.drewN _, HN.out⟩
          case measure => simp [intOf]; omega
        · have hm := hid (show decide (l = m) = false from decide_eq_false (fun e => by rw [e, hy] at hx; cases hx; exact hxy rfl))
          have hbe : (x == y) = false := by simpa using hxy
          clear hx hy hel hel' HS hgr
          go_wp2
          go_quiet (fail)
          go_wp2
          go_ret
          exact ⟨(congrArg (fun b => Ending.returned (.bool b)) hm.out).symm, HGR.out.drewN _⟩
      · have hm := hid (show decide (l = m) = true from decide_eq_true (by
          have h1 := HS.out
          have : j = l.length := by omega
          subst this
          rwa [List.take_length, HL.out, List.take_length] at h1))
        have HGR := hid hgr
        clear hgr
        go_wp2
        go_ret
        exact ⟨(congrArg (fun b => Ending.returned (.bool b)) hm.out).symm, HGR.out⟩
  · have hm := hid (show decide (l = m) = false from decide_eq_false (fun e => hlen (by rw [e])))
    have HG := hid (Fr.refl (fun _ => False) w)
    clear ha hb
    go_enter Try.func31, Try.ntmps31
    go_wp2
    go_ret
    exact ⟨(congrArg (fun b => Ending.returned (.bool b)) hm.out).symm, HG.out⟩
end Go.Proofs.Ytddcfnjmppijjaa
