import Derived.Test.YtddcfnjmppijjaaA8
import Derived.MapKept
import Derived.BigRegion
/-! Maps by texts: what they hold, a look, a write. -/
namespace Go.Proofs.Ytddcfnjmppijjaa
open Go.RowKit Go.MapKept

/-- one more held -/
def upd (g : Str → Option Value) (s : Str) (v : Value) : Str → Option Value := fun t => if t = s then some v else g t
theorem upd_self (g : Str → Option Value) (s : Str) (v : Value) : upd g s v s = some v := by simp [upd]
theorem upd_ne {g : Str → Option Value} {s t : Str} {v : Value} (h : ¬ t = s) : upd g s v t = g t := by simp [upd, h]

/-- At block b lies a map of one's own that holds g. -/
def Mp (w : World) (b : Nat) (g : Str → Option Value) : Prop :=
  ∃ es clock, w.heap[b]? = some (.map es clock) ∧ Stamped es clock ∧ (∀ x ∈ es.toList, ∃ s, x.key = St s ∧ g s = some x.val) ∧ ∀ s v, g s = some v → ∃ x ∈ es.toList, x.key = St s

theorem Mp.kept {w w' : World} {b : Nat} {g : Str → Option Value} {F : Nat → Prop} (h : Mp w b g) (k : Fr F w w') (hF : ¬ F b) : Mp w' b g := by
  obtain ⟨es, clock, h1, h2⟩ := h
  exact ⟨es, clock, k.get h1 hF, h2⟩
theorem Mp.lt {w : World} {b : Nat} {g : Str → Option Value} (h : Mp w b g) : b < w.heap.size := by
  obtain ⟨es, clock, h1, -⟩ := h
  exact lt_of_get h1
theorem Mp.new (w : World) : Mp (w.alloc (.map #[] 0)) w.heap.size (fun _ => none) :=
  ⟨#[], 0, heap_alloc_new _ _, stamped_empty 0, by simp, by simp⟩

theorem isKey_St (s : Str) : IsKey .string (St s) := trivial
theorem St_inj {s t : Str} (h : St s = St t) : s = t := by
  simp only [Value.string.injEq] at h
  have := congrArg (fun b => b.data.toList) h
  simpa using this

theorem Mp.look {w : World} {b : Nat} {g : Str → Option Value} (h : Mp w b g) {T e : TypeId} (hT : Try.prog.underlying T = some (.map 9 e)) {z : Value} (hz : (zeroValue e).run Try.prog w = .ok z w) (s : Str) :
    (Instr.lookup T (.map (some b)) (.string ⟨s.toArray⟩) false).run Try.prog w = .ok ((g s).getD z) w := by
  obtain ⟨es, clock, hb, hs, hk, hg⟩ := h
  have hks : ∀ x ∈ es.toList, IsKey .string x.key := fun x hx => by obtain ⟨s, e, -⟩ := hk x hx; rw [e]; trivial
  rcases findNow_spec (isKey_St s) es.toList 0 hks with ⟨h1, h2⟩ | ⟨j, x, h1, h2, h3⟩
  · have : g s = none := by
      cases hgs : g s with
      | none => rfl
      | some v => obtain ⟨x, hx, e⟩ := hg s v hgs; exact absurd e (h2 x hx)
    simp [Instr.lookup, run_underlying hT, MapKept.run_getObj_map hb, run_checkKey Try.u9 (isKey_St s), run_findKey Try.u9 h1, hz, Result.andThen, this]
  · have hx := List.mem_of_getElem? h2
    obtain ⟨s', e', hv⟩ := hk x hx
    have : s' = s := St_inj (e'.symm.trans h3)
    subst this
    simp [Instr.lookup, run_underlying hT, MapKept.run_getObj_map hb, run_checkKey Try.u9 (isKey_St s'), run_findKey Try.u9 h1, Result.andThen, hv]

theorem Mp.put {w : World} {b : Nat} {g : Str → Option Value} (h : Mp w b g) {T e : TypeId} (hT : Try.prog.underlying T = some (.map 9 e)) (s : Str) (v : Value) :
    ∃ w', (Instr.mapUpdate T (.map (some b)) (.string ⟨s.toArray⟩) v).run Try.prog w = .ok () w' ∧ Mp w' b (upd g s v) ∧ Fr (fun c => c = b) w w' := by
  obtain ⟨es, clock, hb, hs, hk, hg⟩ := h
  have hks : ∀ x ∈ es.toList, IsKey .string x.key := fun x hx => by obtain ⟨s, e, -⟩ := hk x hx; rw [e]; trivial
  have hset : ∀ o, Fr (fun c => c = b) w { w with heap := w.heap.setIfInBounds b o } := fun o => ⟨rfl, rfl, rfl, by simp, fun k _ hn => (heap_set hb).2 k hn⟩
  rcases findNow_spec (isKey_St s) es.toList 0 hks with ⟨h1, h2⟩ | ⟨j, x, h1, h2, h3⟩
  · refine ⟨{ w with heap := w.heap.setIfInBounds b (.map (es.push { key := St s, val := v, born := clock }) (clock + 1)) }, by simp [Instr.mapUpdate, run_underlying hT, MapKept.run_getObj_map hb, run_checkKey Try.u9 (isKey_St s), run_findKey Try.u9 h1, MapKept.run_setObj_map _ hb, Result.andThen], ?_, hset _⟩
    refine ⟨_, _, (heap_set hb).1, stamped_push hs h2, ?_, ?_⟩
    · intro x hx
      simp only [Array.toList_push, List.mem_append, List.mem_singleton] at hx
      rcases hx with hx | rfl
      · obtain ⟨s', e', hv⟩ := hk x hx
        have hne : ¬ s' = s := fun q => h2 x hx (by rw [e', q])
        exact ⟨s', e', by rw [upd_ne hne]; exact hv⟩
      · exact ⟨s, rfl, upd_self _ _ _⟩
    · intro t u hu
      by_cases ht : t = s
      · subst ht
        exact ⟨{ key := St t, val := v, born := clock }, by simp, rfl⟩
      · rw [upd_ne ht] at hu
        obtain ⟨x, hx, e⟩ := hg t u hu
        exact ⟨x, by simp only [Array.toList_push, List.mem_append]; exact .inl hx, e⟩
  · have hj : es[j]? = some x := by simpa using h2
    refine ⟨{ w with heap := w.heap.setIfInBounds b (.map (es.modify j fun e => { e with key := St s, val := v }) clock) }, by simp [Instr.mapUpdate, run_underlying hT, MapKept.run_getObj_map hb, run_checkKey Try.u9 (isKey_St s), run_findKey Try.u9 h1, hj, h3, run_keyThatStays (isKey_St s), MapKept.run_setObj_map _ hb, Result.andThen], ?_, hset _⟩
    have hkey : ∀ e', es[j]? = some e' → ({ e' with key := St s, val := v } : MapEntry).key = e'.key := fun e' he' => by rw [hj] at he'; cases he'; exact h3.symm
    refine ⟨_, _, (heap_set hb).1, stamped_modify hs _ _ (fun _ _ => rfl) (fun e' _ he' => hkey e' he'), ?_, ?_⟩
    · intro y hy
      obtain ⟨i, hi⟩ := List.mem_iff_getElem?.1 hy
      rw [Array.getElem?_toList, Array.getElem?_modify] at hi
      by_cases hij : j = i
      · subst hij
        rw [if_pos rfl, hj] at hi
        simp at hi
        subst hi
        exact ⟨s, rfl, upd_self _ _ _⟩
      · rw [if_neg hij] at hi
        have hy' : y ∈ es.toList := List.mem_iff_getElem?.2 ⟨i, by rw [Array.getElem?_toList]; exact hi⟩
        obtain ⟨s', e', hv⟩ := hk y hy'
        have hne : ¬ s' = s := fun q => by
          have hp := ((stamped_iff es clock).1 hs).2.2
          have hi' : es.toList[i]? = some y := by rw [Array.getElem?_toList]; exact hi
          have : x.key = y.key := by rw [h3, e', q]
          rw [List.pairwise_iff_getElem] at hp
          obtain ⟨l1, g1⟩ := List.getElem?_eq_some_iff.1 h2
          obtain ⟨l2, g2⟩ := List.getElem?_eq_some_iff.1 hi'
          rcases Nat.lt_or_gt_of_ne hij with q | q
          · exact hp j i l1 l2 q (by rw [g1, g2]; exact this)
          · exact hp i j l2 l1 q (by rw [g1, g2]; exact this.symm)
        exact ⟨s', e', by rw [upd_ne hne]; exact hv⟩
    · intro t u hu
      have hmap : ∀ y, y ∈ es.toList → ∃ y' ∈ (es.modify j fun e => { e with key := St s, val := v }).toList, y'.key = y.key := fun y hy => by
        have hm := modify_keys (es := es) j (fun e => { e with key := St s, val := v }) hkey
        have : y.key ∈ (es.modify j fun e => { e with key := St s, val := v }).toList.map (·.key) := by rw [hm]; exact List.mem_map.2 ⟨y, hy, rfl⟩
        obtain ⟨y', h1, h2⟩ := List.mem_map.1 this
        exact ⟨y', h1, h2⟩
      by_cases ht : t = s
      · subst ht
        obtain ⟨y', h1, h2⟩ := hmap x (List.mem_of_getElem? h2)
        exact ⟨y', h1, h2.trans h3⟩
      · rw [upd_ne ht] at hu
        obtain ⟨y, hy, e⟩ := hg t u hu
        obtain ⟨y', h1, h2⟩ := hmap y hy
        exact ⟨y', h1, h2.trans e⟩
end Go.Proofs.Ytddcfnjmppijjaa

/-! thunkref5.In, Once: is a name one of these; none twice, none empty. -/
namespace Go.Proofs.Ytddcfnjmppijjaa
open Go.RowKit

theorem Nm.row {w : World} {D : Nat → Prop} {v : Value} {l : List Str} (h : Nm w D v l) (h0 : l ≠ []) : ∃ g o cap, v = .slice (some ⟨g, o, none⟩) l.length cap ∧ l.length ≤ cap ∧ cap ≤ maxLen ∧ ¬ D g ∧ ∀ i s, l[i]? = some s → w.cell? ⟨g, o + i, none⟩ = some (St s) := by
  obtain ⟨ad, cap, rfl, h2, h3, h4⟩ := h
  obtain ⟨g, o, rfl, hD, h5⟩ := h4.resolve_left h0
  refine ⟨g, o, cap, rfl, h2, h3, hD, fun i s hs => ?_⟩
  obtain ⟨hi, rfl⟩ := List.getElem?_eq_some_iff.1 hs
  exact h5 i hi

theorem Nm.take {w : World} {D : Nat → Prop} {ad : Option Addr} {n cap : Nat} {l : List Str} (h : Nm w D (.slice ad n cap) l) (i : Nat) (hi : i ≤ l.length) : Nm w D (.slice ad i cap) (l.take i) := by
  obtain ⟨ad', cap', h1, h2, h3, h4⟩ := h
  simp only [Value.slice.injEq] at h1
  obtain ⟨rfl, rfl, rfl⟩ := h1
  have hl : (l.take i).length = i := by simp; omega
  refine ⟨ad, cap, by rw [hl], by omega, h3, ?_⟩
  rcases h4 with h4 | ⟨g, o, h5, h6, h7⟩
  · subst h4; exact .inl (by simp)
  · exact .inr ⟨g, o, h5, h6, fun j hj => by rw [h7 j (by omega), List.getElem_take]⟩

theorem St_eq (s t : Str) : ((⟨s.toArray⟩ : ByteArray) = ⟨t.toArray⟩) ↔ s = t := by
  constructor
  · intro h; simpa using congrArg (fun b => b.data.toList) h
  · rintro rfl; rfl

theorem mem_take_add {l : List Str} {i : Nat} {x s : Str} (hx : l[i]? = some x) (hs : s ∉ l.take i) (hne : ¬ x = s) : s ∉ l.take (i + 1) := by
  rw [List.take_add_one, hx]
  simp
  exact ⟨fun h => hs h, fun e => hne e.symm⟩

set_option maxHeartbeats 1000000 in
theorem in_any {w : World} {D : Nat → Prop} {v : Value} {l : List Str} (h : Nm w D v l) (s : Str) :
    Calls Try.prog 25 #[v, St s] w fun e w' => e = .returned (.bool (decide (s ∈ l))) ∧ w = w' := by
  by_cases hl0 : l = []
  · subst hl0
    obtain ⟨ad, cap, rfl, -⟩ := h.shape
    clear h
    go_enter Try.func25, Try.ntmps25
    go_wp2
    go_loop [5] (fun b => b = .int .i64 0) (fun _ => 0)
    case atStart => rfl
    case round =>
      obtain rfl := hrel
      go_wp2
      go_ret
      exact ⟨rfl, rfl⟩
  · obtain ⟨g, o, cap, rfl, hc1, hc2, -, hel⟩ := h.row hl0
    replace hc2 : cap ≤ 9223372036854775807 := hc2
    have HEL := hid hel
    clear h hel hl0
    go_enter Try.func25, Try.ntmps25
    go_wp2
    go_loop [5] (fun b => ∃ i : Nat, i ≤ l.length ∧ b = .int .i64 i ∧ s ∉ l.take i) (fun i => l.length - (intOf i).toNat)
    case atStart => exact ⟨0, Nat.zero_le _, rfl, by simp⟩
    case round =>
      obtain ⟨i, hi, rfl, hs⟩ := hrel
      have HS := hid hs
      clear hs
      by_cases hlt : i < l.length
      · obtain ⟨x, hx⟩ := at_of_lt hlt
        have c0 := HEL.out i x hx
        by_cases hxs : x = s
        · subst hxs
          have hm := hid (show decide (x ∈ l) = true from decide_eq_true (List.mem_of_getElem? hx))
          clear hx
          go_wp2
          go_ret
          exact ⟨(congrArg (fun b => Ending.returned (.bool b)) hm.out).symm, rfl⟩
        · have HN := hid (mem_take_add hx HS.out hxs)
          clear hx HS
          go_wp2
          · exfalso; simp_all
          go_round
          case rel => exact ⟨i + 1, by omega, by go_num, HN.out⟩
          case measure => simp [intOf]; omega
      · obtain rfl : i = l.length := by omega
        have hm := hid (show decide (s ∈ l) = false from decide_eq_false (by have := HS.out; rwa [List.take_length] at this))
        go_wp2
        go_ret
        exact ⟨(congrArg (fun b => Ending.returned (.bool b)) hm.out).symm, rfl⟩

theorem nodup_take_add {l : List Str} {i : Nat} {x : Str} (hx : l[i]? = some x) : (x ≠ [] ∧ x ∉ l.take i) → ([] ∉ l.take i ∧ (l.take i).Nodup) → ([] ∉ l.take (i + 1) ∧ (l.take (i + 1)).Nodup) := by
  intro h1 h2
  rw [List.take_add_one, hx]
  simp
  refine ⟨⟨h2.1, fun e => h1.1 e⟩, ?_⟩
  rw [List.nodup_append]
  exact ⟨h2.2, by simp, fun a ha b hb e => by simp at hb; subst hb; subst e; exact h1.2 ha⟩

/-- none twice, none empty -/
def onceB (l : List Str) : Bool := decide ([] ∉ l ∧ l.Nodup)
theorem namesB_once (l : List Str) : namesB l = (decide (0 < l.length) && onceB l) := by
  cases l with
  | nil => simp [namesB, onceB]
  | cons x r => simp [namesB, onceB]
theorem once_bad {l : List Str} {i : Nat} {x : Str} (hx : l[i]? = some x) (h : x = [] ∨ x ∈ l.take i) : onceB l = false := by
  refine decide_eq_false fun ⟨h1, h2⟩ => ?_
  rcases h with h | h
  · subst h; exact h1 (List.mem_of_getElem? hx)
  · have e : l = l.take i ++ l.drop i := (List.take_append_drop i l).symm
    rw [e, List.nodup_append] at h2
    exact h2.2.2 x h x (by
      have : (l.drop i)[0]? = some x := by rw [List.getElem?_drop]; simpa using hx
      exact List.mem_of_getElem? this) rfl

theorem quiet_same {P : Program} {f : FuncId} {args : Array Value} {w : World} {n : Nat} {v : Value}
    (h : Calls P f args (w.drewN n) fun e w' => e = .returned v ∧ w.drewN n = w') : Calls P f args (w.drewN n) fun e w'' => e = .returned v ∧ ∃ m, w'' = w.drewN m :=
  h.mono fun _ _ ⟨he, hm⟩ => ⟨he, n, hm.symm⟩

set_option maxHeartbeats 4000000 in
theorem once_any {w : World} {D : Nat → Prop} {v : Value} {l : List Str} (h : Nm w D v l) :
    Calls Try.prog 85 #[v] w fun e w' => e = .returned (.bool (onceB l)) ∧ Grew w w' := by
  have hfr := hid (Fr.refl (fun _ => False) w)
  by_cases hl0 : l = []
  · subst hl0
    obtain ⟨ad, cap, rfl, -⟩ := h.shape
    clear h
    go_enter Try.func85, Try.ntmps85
    go_wp2
    go_loop [3] (fun b => b = .int .i64 0) (fun _ => 0)
    case atStart => rfl
    case round =>
      obtain rfl := hrel
      go_wp2
      go_ret
      exact ⟨rfl, hfr.out⟩
  · obtain ⟨g, o, cap, rfl, hc1, hc2, -, hel⟩ := h.row hl0
    have HIN := hid (fun (wr : World) (hg : Grew w wr) i (hi : i ≤ l.length) s => in_any ((h.take i hi).kept hg (fun _ f => f.elim)) s)
    replace hc2 : cap ≤ 9223372036854775807 := hc2
    have HEL := hid hel
    clear h hel hl0
    go_enter Try.func85, Try.ntmps85
    go_wp2
    go_loopw [3] (fun b wr => ∃ i : Nat, i ≤ l.length ∧ b = .int .i64 i ∧ Grew w wr ∧ ([] ∉ l.take i ∧ (l.take i).Nodup)) (fun i _ => l.length - (intOf i).toNat)
    case atStart => exact ⟨0, Nat.zero_le _, rfl, hfr.out, by simp, by simp⟩
    case round =>
      obtain ⟨i, hi, rfl, hgr, hs⟩ := hrel
      have HS := hid hs
      clear hs
      by_cases hlt : i < l.length
      · obtain ⟨x, hx⟩ := at_of_lt hlt
        have c0 := hgr.cell (HEL.out i x hx) (fun f => f)
        have hall : ∀ m, Calls Try.prog 25 #[.slice (some ⟨g, o, none⟩) i cap, St x] (wr.drewN m) fun e w' => e = .returned (.bool (decide (x ∈ l.take i))) ∧ wr.drewN m = w' := fun m => HIN.out _ (hgr.drewN m) i (by omega) x
        have HGR := hid hgr
        clear hgr
        by_cases hx0 : x = []
        · subst hx0
          have hm := hid (once_bad hx (.inl rfl))
          clear hx hall
          go_wp2
          go_quiet (fail)
          go_wp2
          go_ret
          exact ⟨(congrArg (fun b => Ending.returned (.bool b)) hm.out).symm, HGR.out.drewN _⟩
        · have hne : x.isEmpty = false := by cases x <;> simp_all
          by_cases hmem : x ∈ l.take i
          · have hm := hid (once_bad hx (.inr hmem))
            rw [decide_eq_true hmem] at hall
            clear hx hmem hx0
            go_wp2
            go_quiet (first | (go_at_call 25; exact quiet_same (hall _)))
            go_wp2
            go_ret
            exact ⟨(congrArg (fun b => Ending.returned (.bool b)) hm.out).symm, HGR.out.drewN _⟩
          · have HN := hid (nodup_take_add hx ⟨hx0, hmem⟩ HS.out)
            rw [decide_eq_false hmem] at hall
            clear hx hmem hx0 HS
            go_wp2
            go_quiet (first | (go_at_call 25; exact quiet_same (hall _)))
            go_wp2
            go_roundw
            case rel => exact ⟨i + 1, by omega, by go_num, HGR.out.drewN _, HN.out⟩
            case measure => simp [intOf]; omega
      · obtain rfl : i = l.length := by omega
        have hm := hid (show onceB l = true from decide_eq_true (by have := HS.out; rw [List.take_length] at this; exact this))
        go_wp2
        go_ret
        exact ⟨(congrArg (fun b => Ending.returned (.bool b)) hm.out).symm, hgr⟩
end Go.Proofs.Ytddcfnjmppijjaa

/-! Counts and sets in maps; names free in a term. -/
namespace Go.Proofs.Ytddcfnjmppijjaa
open Go.RowKit Go.MapKept

theorem und100 : Try.prog.underlying 100 = some (.map 9 3) := by kernel_rfl
theorem und79 : Try.prog.underlying 79 = some (.map 9 4) := by kernel_rfl
theorem zero3 (w : World) : (zeroValue 3).run Try.prog w = .ok (Kv 0) w := by
  exact Try.zeroValue3 w

/-- a map of counts -/
def MpI (w : World) (b : Nat) (f : Str → Int) : Prop := ∃ g, Mp w b g ∧ (∀ s, (g s).getD (Kv 0) = Kv (f s))
/-- a map of texts that are there -/
def MpS (w : World) (b : Nat) (S : Str → Prop) : Prop := ∃ g, Mp w b g ∧ (∀ s v, g s = some v → v = .bool true) ∧ ∀ s, S s ↔ g s ≠ none

theorem MpI.kept {w w' : World} {b : Nat} {f : Str → Int} {F : Nat → Prop} (h : MpI w b f) (k : Fr F w w') (hF : ¬ F b) : MpI w' b f := by
  obtain ⟨g, h1, h2⟩ := h
  exact ⟨g, h1.kept k hF, h2⟩
theorem MpS.kept {w w' : World} {b : Nat} {f : Str → Prop} {F : Nat → Prop} (h : MpS w b f) (k : Fr F w w') (hF : ¬ F b) : MpS w' b f := by
  obtain ⟨g, h1, h2⟩ := h
  exact ⟨g, h1.kept k hF, h2⟩
theorem MpI.look {w : World} {b : Nat} {f : Str → Int} (h : MpI w b f) (s : Str) : (Instr.lookup 100 (.map (some b)) (.string ⟨s.toArray⟩) false).run Try.prog w = .ok (Kv (f s)) w := by
  obtain ⟨g, h1, h2⟩ := h
  rw [h1.look und100 (zero3 w) s, h2]
theorem MpI.put {w : World} {b : Nat} {f : Str → Int} (h : MpI w b f) (s : Str) (z : Int) :
    ∃ w', (Instr.mapUpdate 100 (.map (some b)) (.string ⟨s.toArray⟩) (.int .i64 z)).run Try.prog w = .ok () w' ∧ MpI w' b (fun t => if t = s then z else f t) ∧ Fr (fun c => c = b) w w' := by
  obtain ⟨g, h1, h2⟩ := h
  obtain ⟨w', hr, hm, hf⟩ := h1.put und100 s (Kv z)
  refine ⟨w', hr, ⟨_, hm, fun t => ?_⟩, hf⟩
  by_cases ht : t = s
  · subst ht; rw [upd_self]; simp
  · rw [upd_ne ht, h2]; simp [ht]
theorem MpS.put {w : World} {b : Nat} {S : Str → Prop} (h : MpS w b S) (s : Str) :
    ∃ w', (Instr.mapUpdate 79 (.map (some b)) (.string ⟨s.toArray⟩) (.bool true)).run Try.prog w = .ok () w' ∧ MpS w' b (fun t => S t ∨ t = s) ∧ Fr (fun c => c = b) w w' := by
  obtain ⟨g, h1, h2, h3⟩ := h
  obtain ⟨w', hr, hm, hf⟩ := h1.put und79 s (.bool true)
  refine ⟨w', hr, ⟨_, hm, fun t v hv => ?_, fun t => ?_⟩, hf⟩
  · by_cases ht : t = s
    · subst ht; rw [upd_self] at hv; cases hv; rfl
    · rw [upd_ne ht] at hv; exact h2 t v hv
  · by_cases ht : t = s
    · subst ht; rw [upd_self]; simp
    · rw [upd_ne ht]; simp [ht, h3 t]

mutual
/-- the names free in a term -/
def X.fv : X → List Str
  | .mk k t ns a => (if k = 5 then [t] else []) ++ (fvs a).filter (fun s => !decide (s ∈ ns))
def fvs : List X → List Str
  | [] => []
  | x :: r => x.fv ++ fvs r
end
theorem fvs_take (l : List X) (i : Nat) (x : X) (hx : l[i]? = some x) (s : Str) : s ∈ fvs (l.take (i + 1)) ↔ s ∈ fvs (l.take i) ∨ s ∈ x.fv := by
  induction l generalizing i with
  | nil => simp at hx
  | cons y r ih =>
    cases i with
    | zero => simp at hx; subst hx; simp [fvs]
    | succ i =>
      have := ih i (by simpa using hx)
      simp only [List.take_succ_cons, fvs, List.mem_append, this, or_assoc]
theorem count_take (l : List Str) (i : Nat) (x : Str) (hx : l[i]? = some x) (s : Str) : (l.take (i + 1)).count s = (l.take i).count s + if s = x then 1 else 0 := by
  rw [List.take_add_one, hx]
  simp [List.count_append, List.count_cons]
  by_cases h : s = x
  · subst h; simp
  · have : ¬ x = s := fun e => h e.symm
    simp [h, this]
end Go.Proofs.Ytddcfnjmppijjaa
