import Derived.Test.YtddcfnjmppijjaaP7
/-! thunkref5.Bind. -/
namespace Go.Proofs.Ytddcfnjmppijjaa
open Go.RowKit

theorem row_two {w : World} {D : Nat → Prop} {x y : X} {vn va vm vb : Value} (hn : Nm w D vn x.names) (hr : Row w D va x.parts) (hm : Nm w D vm y.names) (hq : Row w D vb y.parts) (h0 : ¬ D w.heap.size) (o : Nat) (ho : o = w.heap.size) :
    Row (w.alloc (.cells #[Kv x.kind, St x.text, vn, va, Kv y.kind, St y.text, vm, vb] 28)) D (.slice (some ⟨o, 0, none⟩) 2 2) [x, y] := by
  subst ho
  have hg : Grew w (w.alloc (.cells #[Kv x.kind, St x.text, vn, va, Kv y.kind, St y.text, vm, vb] 28)) := (Fr.refl _ _).alloc _
  have hb := heap_alloc_new w (.cells #[Kv x.kind, St x.text, vn, va, Kv y.kind, St y.text, vm, vb] 28)
  refine .mk [x, y] w.heap.size 0 2 (fun i => if i = 0 then vn else vm) (fun i => if i = 0 then va else vb) (Nat.le_refl _) (by simp [maxLen]) h0 ?_ ?_ ?_ ?_ ?_ ?_
  all_goals
    intro i hi
    have hi2 : i = 0 ∨ i = 1 := by simp at hi; omega
    rcases hi2 with rfl | rfl
  · exact cell_of_get hb 0
  · exact cell_of_get hb 4
  · exact cell_of_get hb 1
  · exact cell_of_get hb 5
  · exact cell_of_get hb 2
  · exact cell_of_get hb 6
  · exact cell_of_get hb 3
  · exact cell_of_get hb 7
  · exact hn.grew hg
  · exact hm.grew hg
  · exact hr.grew hg
  · exact hq.grew hg

theorem bind_done {w W : World} {x1 x2 : X} {s : Str} {vn va vm vb : Value} (hW : Grew w W) (hs : W.heap.size = w.heap.size + 1 + 1 + 1) (hn : Nm w (fun _ => False) vn x1.names) (hr : Row w (fun _ => False) va x1.parts) (hm : Nm w (fun _ => False) vm x2.names) (hq : Row w (fun _ => False) vb x2.parts) :
    ∃ e', Ending.returned (.agg #[.int .i64 9, .string ⟨#[]⟩, .slice (some ⟨w.heap.size + 1 + 1 + 1, 0, none⟩) 1 1, .slice (some ⟨w.heap.size + 1 + 1 + 1 + 1, 0, none⟩) 2 2]) = .returned e' ∧
      Rd ((W.alloc (.cells #[St s] 9)).alloc (.cells #[Kv x1.kind, St x1.text, vn, va, Kv x2.kind, St x2.text, vm, vb] 28)) (fun _ => False) e' (.mk 9 [] [s] [x1, x2]) ∧ Grew w ((W.alloc (.cells #[St s] 9)).alloc (.cells #[Kv x1.kind, St x1.text, vn, va, Kv x2.kind, St x2.text, vm, vb] 28)) := by
  have hg1 : Grew W (W.alloc (.cells #[St s] 9)) := (Fr.refl _ _).alloc _
  have hg := hW.trans hg1 (fun _ _ f => f)
  have h1 := nm_one W s (w.heap.size + 1 + 1 + 1) (by omega)
  exact ⟨_, rfl, ⟨_, _, rfl, h1.grew ((Fr.refl _ _).alloc _), row_two (hn.grew hg) (hr.grew hg) (hm.grew hg) (hq.grew hg) (fun f => f) _ (by simp; omega)⟩, hg.alloc _⟩

set_option maxHeartbeats 4000000 in
set_option maxRecDepth 100000 in
theorem bind_any {w : World} {e1 e2 : Value} {x1 x2 : X} (h1 : Rd w (fun _ => False) e1 x1) (h2 : Rd w (fun _ => False) e2 x2) (s : Str) : Calls Try.prog 29 #[St s, e1, e2] w fun e w' => ∃ e', e = .returned e' ∧ Rd w' (fun _ => False) e' (.mk 9 [] [s] [x1, x2]) ∧ Grew w w' := by
  obtain ⟨vn, va, rfl, hn, hr⟩ := h1
  obtain ⟨vm, vb, rfl, hm, hq⟩ := h2
  have HN := hid hn
  have HR := hid hr
  have HM := hid hm
  have HQ := hid hq
  obtain ⟨an, cn, rfl, -⟩ := hn.shape
  obtain ⟨aa, ca, rfl, -⟩ := hr.shape
  obtain ⟨am, cm, rfl, -⟩ := hm.shape
  obtain ⟨ab, cb, rfl, -⟩ := hq.shape
  clear hn hr hm hq
  go_enter Try.func29, Try.ntmps29
  go_wp2
  refine bodyPost_ret (res28 Try.results29 _ _ (w.heap.size + 1 + 1) rfl (((((Fr.refl (fun _ => False) _).alloc _).alloc _).get (k := w.heap.size + 1 + 1) (by
    have := heap_alloc_new ((w.alloc (.cells #[Kv x1.kind, St x1.text, .slice an x1.names.length cn, .slice aa x1.parts.length ca] 28)).alloc (.cells #[Kv x2.kind, St x2.text, .slice am x2.names.length cm, .slice ab x2.parts.length cb] 28)) (.cells #[.int .i64 9, .string ⟨#[]⟩, .slice (some ⟨w.heap.size + 1 + 1 + 1, 0, none⟩) 1 1, .slice (some ⟨w.heap.size + 1 + 1 + 1 + 1, 0, none⟩) 2 2] 28)
    simpa using this) (fun f => f)))) rfl ?_
  exact bind_done ((((Fr.refl _ _).alloc _).alloc _).alloc _) (by simp) HN.out HR.out HM.out HQ.out
end Go.Proofs.Ytddcfnjmppijjaa
