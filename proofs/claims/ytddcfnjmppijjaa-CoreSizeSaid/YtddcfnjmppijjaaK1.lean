import Derived.Test.YtddcfnjmppijjaaM26
import Derived.Test.YtddcfnjmppijjaaA6
/-! CoreSize's walk. -/
namespace Go.Proofs.Ytddcfnjmppijjaa
open Go.RowKit

set_option maxHeartbeats 4000000 in
set_option maxRecDepth 100000 in
theorem csize_walk {W : World} {v : Value} {l : List RT} (hG : Gl W) (h : RRow W (fun _ => False) v l) : Calls Try.prog 11 #[v] W fun e W' => e = .returned (.bool true) ∧ Grew W W' := by
  have hk := known_any hG
  have hf := fun W1 (g : Grew W W1) => few_any (h.kept g (fun _ f => f.elim))
  have HT := hid (fun W1 (g : Grew W W1) (hn : nodesL l ≤ 40) => term_any (h.kept g (fun _ f => f.elim)) hn)
  obtain ⟨ad, cap, rfl, -⟩ := h.shape
  clear h hG
  go_enter Try.func11, Try.ntmps11
  go_wp2_with (first | (go_at_call 32; (with_reducible refine hk.mono ?_); rintro e w1 ⟨rfl, hg1⟩) | (go_at_call 17; (with_reducible refine (hf _ hg1).mono ?_); rintro e w2 ⟨b, rfl, hb, rfl⟩; clear hf hk; have HB := hid hb; clear hb; have HG1 := hid hg1; clear hg1; cases b) | (go_at_call 18; (with_reducible refine (HT.out _ HG1.out (HB.out (by simp))).mono ?_); rintro e w3 ⟨e', x, rfl, ⟨vn, va, rfl, hn, hr⟩, -, hsz, hg3⟩; obtain ⟨an, cn, rfl, -⟩ := hn.shape; obtain ⟨aa, ca, rfl, hc1, hc2⟩ := hr.shape; have HR := hid hr; have HS := hid hsz; have HG3 := hid hg3; clear hn hr hsz hg3))
  · go_ret
    exact ⟨rfl, HG1.out⟩
  · go_loopw [4, 5] (fun a b wr => ∃ i : Nat, i ≤ x.parts.length ∧ b = .int .i64 i ∧ a = Kv ((1 + sizes (x.parts.take i) : Nat) : Int) ∧ Grew (w3.alloc (.cells #[Kv x.kind, St x.text, .slice an x.names.length cn, .slice aa x.parts.length ca] 28)) wr) (fun _ i _ => x.parts.length - (intOf i).toNat)
    case atStart => exact ⟨0, Nat.zero_le _, rfl, rfl, Fr.refl _ _⟩
    case round =>
      obtain ⟨i, hi, rfl, rfl, hgr⟩ := hrel
      have hgb := hgr.get (heap_alloc_new w3 _) (fun f => f)
      have e0 := cell_of_get hgb 0
      have e1 := cell_of_get hgb 1
      have e2 := cell_of_get hgb 2
      have e3 := cell_of_get hgb 3
      have hg3 : Grew w3 wr := ((Fr.refl _ _).alloc _).trans hgr (fun _ _ f => f)
      have hgW : Grew W wr := (HG1.out.trans HG3.out (fun _ _ f => f)).trans hg3 (fun _ _ f => f)
      have hsz : sizes x.parts ≤ 400 := by have := HS.out; have := HB.out (by simp); have := X.size_eq x; omega
      have hR := HR.out
      replace hc2 : ca ≤ 9223372036854775807 := hc2
      clear hgb
      have HGR := hid hgr
      clear hgr
      have HG3' := hid hg3
      have HGW := hid hgW
      by_cases hlt : i < x.parts.length
      · obtain ⟨y, hy⟩ := at_of_lt hlt
        obtain ⟨g, o, cp, ea, -, -, -, hel⟩ := hR.elems.resolve_left (fun e => by rw [e] at hlt; simp at hlt)
        simp only [Value.slice.injEq] at ea
        obtain ⟨rfl, -, rfl⟩ := ea
        obtain ⟨an', cn', aa', ca', he⟩ := hel i y hy
        have q0 := hg3.cell he.c0 (fun f => f)
        have q1 := hg3.cell he.c1 (fun f => f)
        have q2 := hg3.cell he.c2 (fun f => f)
        have q3 := hg3.cell he.c3 (fun f => f)
        obtain ⟨hst, hle⟩ := sizes_take x.parts i y hy
        have hys := X.size_eq y
        have hcall := size_row he.row wr hg3 (Kv y.kind) (St y.text) (.slice an' y.names.length cn') (by omega)
        have HST := hid (show 1 + sizes (x.parts.take (i + 1)) = 1 + sizes (x.parts.take i) + (1 + sizes y.parts) by omega)
        have hb1 : 1 + sizes (x.parts.take i) + (1 + sizes y.parts) ≤ 500 := by omega
        generalize 1 + sizes y.parts = sy at hcall HST hb1
        generalize 1 + sizes (x.parts.take i) = s0 at HST hb1
        clear he hel hy hst hle hys hsz hR hg3 hgW
        go_wp2_with (go_at_call 39; (with_reducible refine hcall.mono ?_); rintro e w4 ⟨rfl, hg4⟩; clear hcall)
        go_roundw
        case rel => exact ⟨i + 1, by omega, by go_num, by rw [HST.out]; go_num, HGR.out.trans hg4 (fun _ _ f => f)⟩
        case measure => simp [intOf]; omega
      · obtain rfl : i = x.parts.length := by omega
        rw [List.take_length]
        have hcall := size_row hR wr hg3 (Kv x.kind) (St x.text) (.slice an x.names.length cn) (by omega)
        have hs1 : (1 : Int) ≤ ((1 + sizes x.parts : Nat) : Int) := by omega
        generalize 1 + sizes x.parts = s0 at hcall hs1
        clear hg3 hgW hR hsz
        go_wp2_with (go_at_call 39; (with_reducible refine hcall.mono ?_); rintro e w4 ⟨rfl, hg4⟩; clear hcall)
        go_ret
        exact ⟨rfl, HGW.out.trans hg4 (fun _ _ f => f)⟩
end Go.Proofs.Ytddcfnjmppijjaa
