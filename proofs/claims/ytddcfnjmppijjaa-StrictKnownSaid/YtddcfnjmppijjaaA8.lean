import Derived.Test.YtddcfnjmppijjaaA7
/-! core.names' walk. -/
namespace Go.Proofs.Ytddcfnjmppijjaa
open Go.RowKit Go.Sort

theorem Rt.shape {B : Nat} {w : World} {v : Value} {l : List Str} (h : Rt B w v l) : ∃ a c, v = .slice a l.length c ∧ l.length ≤ c ∧ c ≤ maxLen := by
  rcases h.2 with ⟨h1, h2⟩ | ⟨g, cap, cur, hv, _, _, h3, h4, _⟩
  · exact ⟨none, 0, by rw [h1, h2], by omega, by simp [maxLen]⟩
  · exact ⟨_, cap, hv, h3, h4⟩

theorem Rt.cell {B : Nat} {w : World} {v : Value} {l : List Str} (h : Rt B w v l) (i : Nat) (s : Str) (hs : l[i]? = some s) : ∃ g c, v = .slice (some ⟨g, 0, none⟩) l.length c ∧ w.cell? ⟨g, i, none⟩ = some (St s) ∧ B ≤ g ∧ g < w.heap.size := by
  have hi : i < l.length := (List.getElem?_eq_some_iff.1 hs).1
  rcases h.2 with ⟨h1, h2⟩ | ⟨g, cap, cur, hv, hB, hg, h3, h4, h5, h6⟩
  · omega
  · refine ⟨g, cap, hv, ?_, hB, lt_of_get hg⟩
    rw [cell_of_get hg]
    have e1 : (cur.toList.take (l.length * 1))[i]? = (l.map St)[i]? := by rw [h6]
    rw [List.getElem?_take_of_lt (by omega), List.getElem?_map, hs] at e1
    simpa using e1

theorem Rt.cellAt {B : Nat} {w : World} {g n c : Nat} {l : List Str} (h : Rt B w (.slice (some ⟨g, 0, none⟩) n c) l) (i : Nat) (s : Str) (hs : l[i]? = some s) : w.cell? ⟨g, i, none⟩ = some (St s) := by
  obtain ⟨g2, c2, e, hc, -⟩ := h.cell i s hs
  simp only [Value.slice.injEq, Option.some.injEq, Addr.mk.injEq] at e
  rw [e.1.1]; exact hc

theorem own_trans {w w1 w2 : World} {v : Value} {l : List Str} (h : Grew w w1) (hr : Rt w.heap.size w1 v l) (k : Fr (fun b => v.ownBlock = some b) w1 w2) : Grew w w2 :=
  h.trans k (fun i hi e => absurd (hr.lt i e).1 (by omega))

set_option maxHeartbeats 1000000 in
theorem names_any {w : World} {D : Nat → Prop} {v : Value} {l : List Str} (h : Nm w D v l) (hl : l.length ≤ 1000000) :
    Calls Try.prog 83 #[v] w fun e w' => e = .returned (.bool (namesB l)) ∧ Grew w w' := by
  have hc := clone_any h hl
  have HSS := hid (fun w1 v' => sort_any (w := w1) (B := w.heap.size) (v := v') (l := l))
  have HCC := hid (fun w1 v' => compact_any (w := w1) (B := w.heap.size) (v := v') (l := srt l))
  have hsl := srt_length l
  obtain ⟨a0, c0, rfl, -⟩ := h.shape
  clear h
  cases hs : srt l with
  | nil =>
    have hl0 : l = [] := List.eq_nil_of_length_eq_zero (by rw [← hsl, hs]; rfl)
    subst hl0
    clear hs hsl
    go_enter Try.func83, Try.ntmps83
    go_wp2_with (first | (go_at_call 53; refine hc.mono ?_; rintro e w1 ⟨v', rfl, hr, -, hg1⟩; obtain ⟨a1, c1, rfl, -⟩ := hr.shape; have hq := HSS.out w1 _ hr (by simp); have HR := hid hr; clear hr hc) | (go_at_call 62; refine hq.mono ?_; rintro e w2 ⟨rfl, -, hf⟩; clear hq))
    go_ret
    exact ⟨rfl, own_trans hg1 HR.out hf⟩
  | cons x r =>
    have hne : l ≠ [] := by rintro rfl; simp [srt] at hs
    have hx : (srt l)[0]? = some x := by rw [hs]; rfl
    rw [namesB_srt l x r hs]
    obtain ⟨y, hy⟩ : ∃ y, l[0]? = some y := at_of_lt (by cases l <;> simp_all)
    have hln : 0 < l.length := by cases l <;> simp_all
    have HLN := hid hsl
    generalize hcl : (Lib.compact (srt l)).length = cl
    have HCL := hid hcl
    have hcl2 : decide (cl = (srt l).length) = decide (cl = l.length) := by rw [hsl]
    rw [hcl2]
    have HX := hid hx
    have HNE := hid hne
    have HY := hid hy
    have HL := hid hl
    clear hs hne hx hcl hsl hy hcl2 hl
    cases he : List.isEmpty x with
    | true =>
      go_enter Try.func83, Try.ntmps83
      go_wp2_with (first | (go_at_call 53; refine hc.mono ?_; rintro e w1 ⟨v', rfl, hr, -, hg1⟩; obtain ⟨g, c1, rfl, -⟩ := hr.cell 0 _ HY.out; have hq := HSS.out w1 _ hr HL.out; have HR := hid hr; clear hr hc) | (go_at_call 62; refine hq.mono ?_; rintro e w2 ⟨rfl, hr2, hf⟩; clear hq; have hcell := hr2.cellAt 0 _ HX.out; have HR2 := hid hr2; clear hr2))
      go_ret
      exact ⟨rfl, own_trans hg1 HR.out hf⟩
    | false =>
      go_enter Try.func83, Try.ntmps83
      go_wp2_with (first | (go_at_call 53; refine hc.mono ?_; rintro e w1 ⟨v', rfl, hr, -, hg1⟩; obtain ⟨g, c1, rfl, -⟩ := hr.cell 0 _ HY.out; have hq := HSS.out w1 _ hr HL.out; have HR := hid hr; clear hr hc) | (go_at_call 62; refine hq.mono ?_; rintro e w2 ⟨rfl, hr2, hf⟩; clear hq; have hcell := hr2.cellAt 0 _ HX.out; have hcm := HCC.out w2 _ hr2 (by rw [HLN.out]; exact HL.out) (by intro e; have := HX.out; rw [e] at this; cases this); rw [HCL.out] at hcm; have HR2 := hid hr2; clear hr2) | (go_at_call 98; refine hcm.mono ?_; rintro e w3 ⟨a3, c3, rfl, hf3⟩; clear hcm))
      go_ret
      exact ⟨congrArg (fun b => Ending.returned (.bool b)) (show ((cl : Int) == (l.length : Int)) = (!false && decide (cl = l.length)) by rw [Bool.eq_iff_iff]; simp; omega), own_trans hg1 HR.out (hf.trans hf3 (fun _ _ h => h))⟩
end Go.Proofs.Ytddcfnjmppijjaa
