import Derived.Test.YtddcfnjmppijjaaA8
import Derived.BigRegion
/-! thunkref5.In, Once: is a name one of these; none twice, none empty. -/
namespace Go.Proofs.Ytddcfnjmppijjaa
open Go.RowKit

theorem Nm.row {w : World} {D : Nat → Prop} {v : Value} {l : List Str} (h : Nm w D v l) (h0 : l ≠ []) : ∃ g o cap, v = .slice (some ⟨g, o, none⟩) l.length cap ∧ l.length ≤ cap ∧ cap ≤ maxLen ∧ ¬ D g ∧ ∀ i s, l[i]? = some s → w.cell? ⟨g, o + i, none⟩ = some (St s) := by
  obtain ⟨ad, cap, rfl, h2, h3, h4⟩ := h
  obtain ⟨g, o, rfl, hD, h5⟩ := h4.resolve_left h0
  refine ⟨g, o, cap, rfl, h2, h3, hD, fun i s hs => ?_⟩
  obtain ⟨hi, rfl⟩ := List.getElem?_eq_some_iff.1 hs
  exact h5 i hi

theorem Nm.take {w : World} {D : Nat → Prop} {ad : Option Addr} {n cap : Nat} {l : List Str} (h : Nm w D (.slice ad n cap) l) (i : Nat) (hi : i ≤ l.length) : Nm w D (.slice ad i cap) (l.take i) := by
  obtain ⟨ad', cap', h1, h2, h3, h4⟩ := h
  simp only [Value.slice.injEq] at h1
  obtain ⟨rfl, rfl, rfl⟩ := h1
  have hl : (l.take i).length = i := by simp; omega
  refine ⟨ad, cap, by rw [hl], by omega, h3, ?_⟩
  rcases h4 with h4 | ⟨g, o, h5, h6, h7⟩
  · subst h4; exact .inl (by simp)
  · exact .inr ⟨g, o, h5, h6, fun j hj => by rw [h7 j (by omega), List.getElem_take]⟩

theorem St_eq (s t : Str) : ((⟨s.toArray⟩ : ByteArray) = ⟨t.toArray⟩) ↔ s = t := by
  constructor
  · intro h; simpa using congrArg (fun b => b.data.toList) h
  · rintro rfl; rfl

theorem mem_take_add {l : List Str} {i : Nat} {x s : Str} (hx : l[i]? = some x) (hs : s ∉ l.take i) (hne : ¬ x = s) : s ∉ l.take (i + 1) := by
  rw [List.take_add_one, hx]
  simp
  exact ⟨fun h => hs h, fun e => hne e.symm⟩

set_option maxHeartbeats 1000000 in
theorem in_any {w : World} {D : Nat → Prop} {v : Value} {l : List Str} (h : Nm w D v l) (s : Str) :
    Calls Try.prog 25 #[v, St s] w fun e w' => e = .returned (.bool (decide (s ∈ l))) ∧ w = w' := by
  by_cases hl0 : l = []
  · subst hl0
    obtain ⟨ad, cap, rfl, -⟩ := h.shape
    clear h
    go_enter Try.func25, Try.ntmps25
    go_wp2
    go_loop [5] (fun b => b = .int .i64 0) (fun _ => 0)
    case atStart => rfl
    case round =>
      obtain rfl := hrel
      go_wp2
      go_ret
      exact ⟨rfl, rfl⟩
  · obtain ⟨g, o, cap, rfl, hc1, hc2, -, hel⟩ := h.row hl0
    replace hc2 : cap ≤ 9223372036854775807 := hc2
    have HEL := hid hel
    clear h hel hl0
    go_enter Try.func25, Try.ntmps25
    go_wp2
    go_loop [5] (fun b => ∃ i : Nat, i ≤ l.length ∧ b = .int .i64 i ∧ s ∉ l.take i) (fun i => l.length - (intOf i).toNat)
    case atStart => exact ⟨0, Nat.zero_le _, rfl, by simp⟩
    case round =>
      obtain ⟨i, hi, rfl, hs⟩ := hrel
      have HS := hid hs
      clear hs
      by_cases hlt : i < l.length
      · obtain ⟨x, hx⟩ := at_of_lt hlt
        have c0 := HEL.out i x hx
        by_cases hxs : x = s
        · subst hxs
          have hm := hid (show decide (x ∈ l) = true from decide_eq_true (List.mem_of_getElem? hx))
          clear hx
          go_wp2
          go_ret
          exact ⟨(congrArg (fun b => Ending.returned (.bool b)) hm.out).symm, rfl⟩
        · have HN := hid (mem_take_add hx HS.out hxs)
          clear hx HS
          go_wp2
          · exfalso; simp_all
          go_round
          case rel => exact ⟨i + 1, by omega, by go_num, HN.out⟩
          case measure => simp [intOf]; omega
      · obtain rfl : i = l.length := by omega
        have hm := hid (show decide (s ∈ l) = false from decide_eq_false (by have := HS.out; rwa [List.take_length] at this))
        go_wp2
        go_ret
        exact ⟨(congrArg (fun b => Ending.returned (.bool b)) hm.out).symm, rfl⟩

theorem nodup_take_add {l : List Str} {i : Nat} {x : Str} (hx : l[i]? = some x) : (x ≠ [] ∧ x ∉ l.take i) → ([] ∉ l.take i ∧ (l.take i).Nodup) → ([] ∉ l.take (i + 1) ∧ (l.take (i + 1)).Nodup) := by
  intro h1 h2
  rw [List.take_add_one, hx]
  simp
  refine ⟨⟨h2.1, fun e => h1.1 e⟩, ?_⟩
  rw [List.nodup_append]
  exact ⟨h2.2, by simp, fun a ha b hb e => by simp at hb; subst hb; subst e; exact h1.2 ha⟩

/-- none twice, none empty -/
def onceB (l : List Str) : Bool := decide ([] ∉ l ∧ l.Nodup)
theorem namesB_once (l : List Str) : namesB l = (decide (0 < l.length) && onceB l) := by
  cases l with
  | nil => simp [namesB, onceB]
  | cons x r => simp [namesB, onceB]
theorem once_bad {l : List Str} {i : Nat} {x : Str} (hx : l[i]? = some x) (h : x = [] ∨ x ∈ l.take i) : onceB l = false := by
  refine decide_eq_false fun ⟨h1, h2⟩ => ?_
  rcases h with h | h
  · subst h; exact h1 (List.mem_of_getElem? hx)
  · have e : l = l.take i ++ l.drop i := (List.take_append_drop i l).symm
    rw [e, List.nodup_append] at h2
    exact h2.2.2 x h x (by
      have : (l.drop i)[0]? = some x := by rw [List.getElem?_drop]; simpa using hx
      exact List.mem_of_getElem? this) rfl

theorem quiet_same {P : Program} {f : FuncId} {args : Array Value} {w : World} {n : Nat} {v : Value}
    (h : Calls P f args (w.drewN n) fun e w' => e = .returned v ∧ w.drewN n = w') : Calls P f args (w.drewN n) fun e w'' => e = .returned v ∧ ∃ m, w'' = w.drewN m :=
  h.mono fun _ _ ⟨he, hm⟩ => ⟨he, n, hm.symm⟩

set_option maxHeartbeats 4000000 in
theorem once_any {w : World} {D : Nat → Prop} {v : Value} {l : List Str} (h : Nm w D v l) :
    Calls Try.prog 85 #[v] w fun e w' => e = .returned (.bool (onceB l)) ∧ Grew w w' := by
  have hfr := hid (Fr.refl (fun _ => False) w)
  by_cases hl0 : l = []
  · subst hl0
    obtain ⟨ad, cap, rfl, -⟩ := h.shape
    clear h
    go_enter Try.func85, Try.ntmps85
    go_wp2
    go_loop [3] (fun b => b = .int .i64 0) (fun _ => 0)
    case atStart => rfl
    case round =>
      obtain rfl := hrel
      go_wp2
      go_ret
      exact ⟨rfl, hfr.out⟩
  · obtain ⟨g, o, cap, rfl, hc1, hc2, -, hel⟩ := h.row hl0
    have HIN := hid (fun (wr : World) (hg : Grew w wr) i (hi : i ≤ l.length) s => in_any ((h.take i hi).kept hg (fun _ f => f.elim)) s)
    replace hc2 : cap ≤ 9223372036854775807 := hc2
    have HEL := hid hel
    clear h hel hl0
    go_enter Try.func85, Try.ntmps85
    go_wp2
    go_loopw [3] (fun b wr => ∃ i : Nat, i ≤ l.length ∧ b = .int .i64 i ∧ Grew w wr ∧ ([] ∉ l.take i ∧ (l.take i).Nodup)) (fun i _ => l.length - (intOf i).toNat)
    case atStart => exact ⟨0, Nat.zero_le _, rfl, hfr.out, by simp, by simp⟩
    case round =>
      obtain ⟨i, hi, rfl, hgr, hs⟩ := hrel
      have HS := hid hs
      clear hs
      by_cases hlt : i < l.length
      · obtain ⟨x, hx⟩ := at_of_lt hlt
        have c0 := hgr.cell (HEL.out i x hx) (fun f => f)
        have hall : ∀ m, Calls Try.prog 25 #[.slice (some ⟨g, o, none⟩) i cap, St x] (wr.drewN m) fun e w' => e = .returned (.bool (decide (x ∈ l.take i))) ∧ wr.drewN m = w' := fun m => HIN.out _ (hgr.drewN m) i (by omega) x
        have HGR := hid hgr
        clear hgr
        by_cases hx0 : x = []
        · subst hx0
          have hm := hid (once_bad hx (.inl rfl))
          clear hx hall
          go_wp2
          go_quiet (fail)
          go_wp2
          go_ret
          exact ⟨(congrArg (fun b => Ending.returned (.bool b)) hm.out).symm, HGR.out.drewN _⟩
        · have hne : x.isEmpty = false := by cases x <;> simp_all
          by_cases hmem : x ∈ l.take i
          · have hm := hid (once_bad hx (.inr hmem))
            rw [decide_eq_true hmem] at hall
            clear hx hmem hx0
            go_wp2
            go_quiet (first | (go_at_call 25; exact quiet_same (hall _)))
            go_wp2
            go_ret
            exact ⟨(congrArg (fun b => Ending.returned (.bool b)) hm.out).symm, HGR.out.drewN _⟩
          · have HN := hid (nodup_take_add hx ⟨hx0, hmem⟩ HS.out)
            rw [decide_eq_false hmem] at hall
            clear hx hmem hx0 HS
            go_wp2
            go_quiet (first | (go_at_call 25; exact quiet_same (hall _)))
            go_wp2
            go_roundw
            case rel => exact ⟨i + 1, by omega, by go_num, HGR.out.drewN _, HN.out⟩
            case measure => simp [intOf]; omega
      · obtain rfl : i = l.length := by omega
        have hm := hid (show onceB l = true from decide_eq_true (by have := HS.out; rw [List.take_length] at this; exact this))
        go_wp2
        go_ret
        exact ⟨(congrArg (fun b => Ending.returned (.bool b)) hm.out).symm, hgr⟩
end Go.Proofs.Ytddcfnjmppijjaa
