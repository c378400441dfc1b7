import Derived.Test.YtddcfnjmppijjaaA8
import Derived.MapKept
/-! Maps by texts: what they hold, a look, a write. -/
namespace Go.Proofs.Ytddcfnjmppijjaa
open Go.RowKit Go.MapKept

/-- one more held -/
def upd (g : Str → Option Value) (s : Str) (v : Value) : Str → Option Value := fun t => if t = s then some v else g t
theorem upd_self (g : Str → Option Value) (s : Str) (v : Value) : upd g s v s = some v := by simp [upd]
theorem upd_ne {g : Str → Option Value} {s t : Str} {v : Value} (h : ¬ t = s) : upd g s v t = g t := by simp [upd, h]

/-- At block b lies a map of one's own that holds g. -/
def Mp (w : World) (b : Nat) (g : Str → Option Value) : Prop :=
  ∃ es clock, w.heap[b]? = some (.map es clock) ∧ Stamped es clock ∧ (∀ x ∈ es.toList, ∃ s, x.key = St s ∧ g s = some x.val) ∧ ∀ s v, g s = some v → ∃ x ∈ es.toList, x.key = St s

theorem Mp.kept {w w' : World} {b : Nat} {g : Str → Option Value} {F : Nat → Prop} (h : Mp w b g) (k : Fr F w w') (hF : ¬ F b) : Mp w' b g := by
  obtain ⟨es, clock, h1, h2⟩ := h
  exact ⟨es, clock, k.get h1 hF, h2⟩
theorem Mp.lt {w : World} {b : Nat} {g : Str → Option Value} (h : Mp w b g) : b < w.heap.size := by
  obtain ⟨es, clock, h1, -⟩ := h
  exact lt_of_get h1
theorem Mp.new (w : World) : Mp (w.alloc (.map #[] 0)) w.heap.size (fun _ => none) :=
  ⟨#[], 0, heap_alloc_new _ _, stamped_empty 0, by simp, by simp⟩

theorem isKey_St (s : Str) : IsKey .string (St s) := trivial
theorem St_inj {s t : Str} (h : St s = St t) : s = t := by
  simp only [Value.string.injEq] at h
  have := congrArg (fun b => b.data.toList) h
  simpa using this

theorem Mp.look {w : World} {b : Nat} {g : Str → Option Value} (h : Mp w b g) {T e : TypeId} (hT : Try.prog.underlying T = some (.map 9 e)) {z : Value} (hz : (zeroValue e).run Try.prog w = .ok z w) (s : Str) :
    (Instr.lookup T (.map (some b)) (.string ⟨s.toArray⟩) false).run Try.prog w = .ok ((g s).getD z) w := by
  obtain ⟨es, clock, hb, hs, hk, hg⟩ := h
  have hks : ∀ x ∈ es.toList, IsKey .string x.key := fun x hx => by obtain ⟨s, e, -⟩ := hk x hx; rw [e]; trivial
  rcases findNow_spec (isKey_St s) es.toList 0 hks with ⟨h1, h2⟩ | ⟨j, x, h1, h2, h3⟩
  · have : g s = none := by
      cases hgs : g s with
      | none => rfl
      | some v => obtain ⟨x, hx, e⟩ := hg s v hgs; exact absurd e (h2 x hx)
    simp [Instr.lookup, run_underlying hT, MapKept.run_getObj_map hb, run_checkKey Try.u9 (isKey_St s), run_findKey Try.u9 h1, hz, Result.andThen, this]
  · have hx := List.mem_of_getElem? h2
    obtain ⟨s', e', hv⟩ := hk x hx
    have : s' = s := St_inj (e'.symm.trans h3)
    subst this
    simp [Instr.lookup, run_underlying hT, MapKept.run_getObj_map hb, run_checkKey Try.u9 (isKey_St s'), run_findKey Try.u9 h1, Result.andThen, hv]

theorem Mp.put {w : World} {b : Nat} {g : Str → Option Value} (h : Mp w b g) {T e : TypeId} (hT : Try.prog.underlying T = some (.map 9 e)) (s : Str) (v : Value) :
    ∃ w', (Instr.mapUpdate T (.map (some b)) (.string ⟨s.toArray⟩) v).run Try.prog w = .ok () w' ∧ Mp w' b (upd g s v) ∧ Fr (fun c => c = b) w w' := by
  obtain ⟨es, clock, hb, hs, hk, hg⟩ := h
  have hks : ∀ x ∈ es.toList, IsKey .string x.key := fun x hx => by obtain ⟨s, e, -⟩ := hk x hx; rw [e]; trivial
  have hset : ∀ o, Fr (fun c => c = b) w { w with heap := w.heap.setIfInBounds b o } := fun o => ⟨rfl, rfl, rfl, by simp, fun k _ hn => (heap_set hb).2 k hn⟩
  rcases findNow_spec (isKey_St s) es.toList 0 hks with ⟨h1, h2⟩ | ⟨j, x, h1, h2, h3⟩
  · refine ⟨{ w with heap := w.heap.setIfInBounds b (.map (es.push { key := St s, val := v, born := clock }) (clock + 1)) }, by simp [Instr.mapUpdate, run_underlying hT, MapKept.run_getObj_map hb, run_checkKey Try.u9 (isKey_St s), run_findKey Try.u9 h1, MapKept.run_setObj_map _ hb, Result.andThen], ?_, hset _⟩
    refine ⟨_, _, (heap_set hb).1, stamped_push hs h2, ?_, ?_⟩
    · intro x hx
      simp only [Array.toList_push, List.mem_append, List.mem_singleton] at hx
      rcases hx with hx | rfl
      · obtain ⟨s', e', hv⟩ := hk x hx
        have hne : ¬ s' = s := fun q => h2 x hx (by rw [e', q])
        exact ⟨s', e', by rw [upd_ne hne]; exact hv⟩
      · exact ⟨s, rfl, upd_self _ _ _⟩
    · intro t u hu
      by_cases ht : t = s
      · subst ht
        exact ⟨{ key := St t, val := v, born := clock }, by simp, rfl⟩
      · rw [upd_ne ht] at hu
        obtain ⟨x, hx, e⟩ := hg t u hu
        exact ⟨x, by simp only [Array.toList_push, List.mem_append]; exact .inl hx, e⟩
  · have hj : es[j]? = some x := by simpa using h2
    refine ⟨{ w with heap := w.heap.setIfInBounds b (.map (es.modify j fun e => { e with key := St s, val := v }) clock) }, by simp [Instr.mapUpdate, run_underlying hT, MapKept.run_getObj_map hb, run_checkKey Try.u9 (isKey_St s), run_findKey Try.u9 h1, hj, h3, run_keyThatStays (isKey_St s), MapKept.run_setObj_map _ hb, Result.andThen], ?_, hset _⟩
    have hkey : ∀ e', es[j]? = some e' → ({ e' with key := St s, val := v } : MapEntry).key = e'.key := fun e' he' => by rw [hj] at he'; cases he'; exact h3.symm
    refine ⟨_, _, (heap_set hb).1, stamped_modify hs _ _ (fun _ _ => rfl) (fun e' _ he' => hkey e' he'), ?_, ?_⟩
    · intro y hy
      obtain ⟨i, hi⟩ := List.mem_iff_getElem?.1 hy
      rw [Array.getElem?_toList, Array.getElem?_modify] at hi
      by_cases hij : j = i
      · subst hij
        rw [if_pos rfl, hj] at hi
        simp at hi
        subst hi
        exact ⟨s, rfl, upd_self _ _ _⟩
      · rw [if_neg hij] at hi
        have hy' : y ∈ es.toList := List.mem_iff_getElem?.2 ⟨i, by rw [Array.getElem?_toList]; exact hi⟩
        obtain ⟨s', e', hv⟩ := hk y hy'
        have hne : ¬ s' = s := fun q => by
          have hp := ((stamped_iff es clock).1 hs).2.2
          have hi' : es.toList[i]? = some y := by rw [Array.getElem?_toList]; exact hi
          have : x.key = y.key := by rw [h3, e', q]
          rw [List.pairwise_iff_getElem] at hp
          obtain ⟨l1, g1⟩ := List.getElem?_eq_some_iff.1 h2
          obtain ⟨l2, g2⟩ := List.getElem?_eq_some_iff.1 hi'
          rcases Nat.lt_or_gt_of_ne hij with q | q
          · exact hp j i l1 l2 q (by rw [g1, g2]; exact this)
          · exact hp i j l2 l1 q (by rw [g1, g2]; exact this.symm)
        exact ⟨s', e', by rw [upd_ne hne]; exact hv⟩
    · intro t u hu
      have hmap : ∀ y, y ∈ es.toList → ∃ y' ∈ (es.modify j fun e => { e with key := St s, val := v }).toList, y'.key = y.key := fun y hy => by
        have hm := modify_keys (es := es) j (fun e => { e with key := St s, val := v }) hkey
        have : y.key ∈ (es.modify j fun e => { e with key := St s, val := v }).toList.map (·.key) := by rw [hm]; exact List.mem_map.2 ⟨y, hy, rfl⟩
        obtain ⟨y', h1, h2⟩ := List.mem_map.1 this
        exact ⟨y', h1, h2⟩
      by_cases ht : t = s
      · subst ht
        obtain ⟨y', h1, h2⟩ := hmap x (List.mem_of_getElem? h2)
        exact ⟨y', h1, h2.trans h3⟩
      · rw [upd_ne ht] at hu
        obtain ⟨y, hy, e⟩ := hg t u hu
        obtain ⟨y', h1, h2⟩ := hmap y hy
        exact ⟨y', h1, h2.trans e⟩
end Go.Proofs.Ytddcfnjmppijjaa
