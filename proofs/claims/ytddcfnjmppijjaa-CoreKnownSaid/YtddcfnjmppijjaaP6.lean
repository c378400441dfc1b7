import Derived.Test.YtddcfnjmppijjaaP5
/-! thunkref5.Without. -/
namespace Go.Proofs.Ytddcfnjmppijjaa
open Go.RowKit

/-- a set without these -/
def wo (l ns : List Str) : List Str := l.filter (fun s => !decide (s ∈ ns))
theorem wo_take {l ns : List Str} {i : Nat} {x : Str} (hx : l[i]? = some x) : wo (l.take (i + 1)) ns = wo (l.take i) ns ++ (if x ∈ ns then [] else [x]) := by
  unfold wo
  rw [List.take_add_one, hx, List.filter_append]
  by_cases h : x ∈ ns <;> simp [h]
theorem wo_len (l ns : List Str) : (wo l ns).length ≤ l.length := List.length_filter_le _ _

set_option maxHeartbeats 4000000 in
/-- Without -/
theorem without_any {w : World} {D E : Nat → Prop} {a b : Value} {l ns : List Str} (ha : Nm w D a l) (hb : Nm w E b ns) (hl : l.length ≤ 900000) : Calls Try.prog 41 #[a, b] w fun e w' => ∃ v, e = .returned v ∧ Rt w.heap.size w' v (wo l ns) ∧ Grew w w' := by
  have hA := hid (fun (h0 : l ≠ []) => ha.row h0)
  have HIN := hid (fun (wr : World) (hg : Grew w wr) s => in_any (hb.kept hg (fun _ f => f.elim)) s)
  obtain ⟨aa, ca, rfl, ha1, ha2⟩ := ha.shape
  obtain ⟨ab, cb, rfl, hb1, hb2⟩ := hb.shape
  replace ha2 : ca ≤ 9223372036854775807 := ha2
  have HG := hid (Fr.refl (fun _ => False) w)
  clear ha hb
  go_enter Try.func41, Try.ntmps41
  go_wp2
  go_loopw [5, 6] (fun vo i wr => ∃ j : Nat, j ≤ l.length ∧ i = .int .i64 j ∧ (∃ a m c, vo = .slice a m c) ∧ Grew w wr ∧ Rt w.heap.size wr vo (wo (l.take j) ns)) (fun _ i _ => l.length - (intOf i).toNat)
  case atStart => exact ⟨0, Nat.zero_le _, rfl, ⟨_, _, _, rfl⟩, HG.out, World.ownsRow_nil _ _ _ _⟩
  case round =>
    obtain ⟨j, hj, rfl, ⟨aO, mO, cO, rfl⟩, hgr, hrt⟩ := hrel
    by_cases hlt : j < l.length
    · obtain ⟨x, hx⟩ := at_of_lt hlt
      obtain ⟨g, o, c, e, -, -, -, hel⟩ := hA.out (fun e => by rw [e] at hlt; simp at hlt)
      simp only [Value.slice.injEq] at e
      obtain ⟨rfl, -, rfl⟩ := e
      have c0 := hgr.cell (hel j x hx) (fun f => f)
      have hin := HIN.out wr hgr x
      have HWT := hid (wo_take (ns := ns) hx)
      have hlw := wo_len (l.take j) ns
      have hlt2 : (l.take j).length ≤ 900000 := by simp; omega
      by_cases hmem : x ∈ ns
      · rw [decide_eq_true hmem] at hin
        have HR := hid (show Rt w.heap.size wr (.slice aO mO cO) (wo (l.take (j + 1)) ns) by rw [HWT.out, if_pos hmem, List.append_nil]; exact hrt)
        have HGR := hid hgr
        clear hel hrt hgr hx hmem
        go_wp2_with (go_at_call 25; (with_reducible refine hin.mono ?_); rintro e w2 ⟨rfl, rfl⟩; clear hin)
        go_roundw
        case rel => exact ⟨j + 1, by omega, by go_num, ⟨_, _, _, rfl⟩, HGR.out, HR.out⟩
        case measure => simp [intOf]; omega
      · rw [decide_eq_false hmem] at hin
        have hg5 : Grew wr (wr.alloc (.cells #[St x] 9)) := (Fr.refl _ _).alloc _
        obtain ⟨v1, w6, hrun, hn3, hf6, ho3⟩ := app_rt (rt_kept hrt hg5 (fun _ _ f => f)) (by simp; have := hgr.size; omega) (nm_one wr x _ rfl) (by simp; omega) 25
        obtain ⟨a1, m1, c1, rfl⟩ : ∃ a m c, v1 = .slice a m c := (by obtain ⟨a1, c1, e1, -⟩ := hn3.shape; exact ⟨a1, _, c1, e1⟩)
        have hg6 : Grew w w6 := (hgr.trans hg5 (fun _ _ f => f)).trans hf6 (fun k hk e => by have := (hrt.lt k e).1; omega)
        have HR := hid (show Rt w.heap.size w6 _ (wo (l.take (j + 1)) ns) by rw [HWT.out, if_neg hmem]; exact hn3)
        have HRUN := hid hrun
        have HG6 := hid hg6
        clear hel hrt hgr hx hmem hg5 hrun hn3 hf6 ho3 hg6
        go_wp2_with (first | (go_at_call 25; (with_reducible refine hin.mono ?_); rintro e w2 ⟨rfl, rfl⟩; clear hin) | (at_builtin; refine wpList_app rfl rfl rfl rfl HRUN.out ?_; clear HRUN))
        go_roundw
        case rel => first | exact ⟨j + 1, by omega, by go_num, ⟨_, _, _, rfl⟩, HG6.out, HR.out⟩
        case measure => simp [intOf]; omega
    · obtain rfl : j = l.length := by omega
      rw [List.take_length] at hrt
      have HR := hid hrt
      have HGR := hid hgr
      clear hrt hgr
      go_wp2
      go_ret
      exact ⟨_, rfl, HR.out, HGR.out⟩
end Go.Proofs.Ytddcfnjmppijjaa
