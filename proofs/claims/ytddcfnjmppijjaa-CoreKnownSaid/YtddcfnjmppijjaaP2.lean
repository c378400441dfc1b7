import Derived.Test.YtddcfnjmppijjaaP1
import Derived.Test.YtddcfnjmppijjaaN3
/-! Counts and sets in maps; names free in a term. -/
namespace Go.Proofs.Ytddcfnjmppijjaa
open Go.RowKit Go.MapKept

theorem und100 : Try.prog.underlying 100 = some (.map 9 3) := by kernel_rfl
theorem und79 : Try.prog.underlying 79 = some (.map 9 4) := by kernel_rfl
theorem zero3 (w : World) : (zeroValue 3).run Try.prog w = .ok (Kv 0) w := by
  exact Try.zeroValue3 w

/-- a map of counts -/
def MpI (w : World) (b : Nat) (f : Str → Int) : Prop := ∃ g, Mp w b g ∧ (∀ s, (g s).getD (Kv 0) = Kv (f s))
/-- a map of texts that are there -/
def MpS (w : World) (b : Nat) (S : Str → Prop) : Prop := ∃ g, Mp w b g ∧ (∀ s v, g s = some v → v = .bool true) ∧ ∀ s, S s ↔ g s ≠ none

theorem MpI.kept {w w' : World} {b : Nat} {f : Str → Int} {F : Nat → Prop} (h : MpI w b f) (k : Fr F w w') (hF : ¬ F b) : MpI w' b f := by
  obtain ⟨g, h1, h2⟩ := h
  exact ⟨g, h1.kept k hF, h2⟩
theorem MpS.kept {w w' : World} {b : Nat} {f : Str → Prop} {F : Nat → Prop} (h : MpS w b f) (k : Fr F w w') (hF : ¬ F b) : MpS w' b f := by
  obtain ⟨g, h1, h2⟩ := h
  exact ⟨g, h1.kept k hF, h2⟩
theorem MpI.look {w : World} {b : Nat} {f : Str → Int} (h : MpI w b f) (s : Str) : (Instr.lookup 100 (.map (some b)) (.string ⟨s.toArray⟩) false).run Try.prog w = .ok (Kv (f s)) w := by
  obtain ⟨g, h1, h2⟩ := h
  rw [h1.look und100 (zero3 w) s, h2]
theorem MpI.put {w : World} {b : Nat} {f : Str → Int} (h : MpI w b f) (s : Str) (z : Int) :
    ∃ w', (Instr.mapUpdate 100 (.map (some b)) (.string ⟨s.toArray⟩) (.int .i64 z)).run Try.prog w = .ok () w' ∧ MpI w' b (fun t => if t = s then z else f t) ∧ Fr (fun c => c = b) w w' := by
  obtain ⟨g, h1, h2⟩ := h
  obtain ⟨w', hr, hm, hf⟩ := h1.put und100 s (Kv z)
  refine ⟨w', hr, ⟨_, hm, fun t => ?_⟩, hf⟩
  by_cases ht : t = s
  · subst ht; rw [upd_self]; simp
  · rw [upd_ne ht, h2]; simp [ht]
theorem MpS.put {w : World} {b : Nat} {S : Str → Prop} (h : MpS w b S) (s : Str) :
    ∃ w', (Instr.mapUpdate 79 (.map (some b)) (.string ⟨s.toArray⟩) (.bool true)).run Try.prog w = .ok () w' ∧ MpS w' b (fun t => S t ∨ t = s) ∧ Fr (fun c => c = b) w w' := by
  obtain ⟨g, h1, h2, h3⟩ := h
  obtain ⟨w', hr, hm, hf⟩ := h1.put und79 s (.bool true)
  refine ⟨w', hr, ⟨_, hm, fun t v hv => ?_, fun t => ?_⟩, hf⟩
  · by_cases ht : t = s
    · subst ht; rw [upd_self] at hv; cases hv; rfl
    · rw [upd_ne ht] at hv; exact h2 t v hv
  · by_cases ht : t = s
    · subst ht; rw [upd_self]; simp
    · rw [upd_ne ht]; simp [ht, h3 t]

mutual
/-- the names free in a term -/
def X.fv : X → List Str
  | .mk k t ns a => (if k = 5 then [t] else []) ++ (fvs a).filter (fun s => !decide (s ∈ ns))
def fvs : List X → List Str
  | [] => []
  | x :: r => x.fv ++ fvs r
end
theorem fvs_take (l : List X) (i : Nat) (x : X) (hx : l[i]? = some x) (s : Str) : s ∈ fvs (l.take (i + 1)) ↔ s ∈ fvs (l.take i) ∨ s ∈ x.fv := by
  induction l generalizing i with
  | nil => simp at hx
  | cons y r ih =>
    cases i with
    | zero => simp at hx; subst hx; simp [fvs]
    | succ i =>
      have := ih i (by simpa using hx)
      simp only [List.take_succ_cons, fvs, List.mem_append, this, or_assoc]
theorem count_take (l : List Str) (i : Nat) (x : Str) (hx : l[i]? = some x) (s : Str) : (l.take (i + 1)).count s = (l.take i).count s + if s = x then 1 else 0 := by
  rw [List.take_add_one, hx]
  simp [List.count_append, List.count_cons]
  by_cases h : s = x
  · subst h; simp
  · have : ¬ x = s := fun e => h e.symm
    simp [h, this]
end Go.Proofs.Ytddcfnjmppijjaa
