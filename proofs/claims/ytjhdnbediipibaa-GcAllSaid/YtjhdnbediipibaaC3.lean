import Derived.Test.YtjhdnbediipibaaP6
/-! Rows side by side, beside a heap. -/
namespace Go.Proofs.Ytjhdnbediipibaa
open Go.RowKit

theorem Ow.two (w : World) (y z : Int) : Ow (w.alloc (.cells #[.int .i64 y, .int .i64 z] 3)) (.slice (some ⟨w.heap.size, 0, none⟩) 2 2) [y, z] :=
  ⟨by simp, .inr ⟨w.heap.size, 2, #[.int .i64 y, .int .i64 z], rfl, Nat.zero_le _, heap_alloc_new w _, Nat.le_refl _, by simp [maxLen], by simp, by simp⟩⟩

/-- what an Alloc leaves -/
theorem rel_made {w wr w1 : World} {hb : Nat} {A : AH} {fpr : List Nat} {t : Int} {p n : List Int} {e : Ending} {u : Int} (hu : A.used = u) (r2 : Grew w wr) (r3 : ∀ b ∈ fpr, w.heap.size ≤ b) (h : MadePost wr hb A fpr t p n e w1) :
    e = .returned (.tuple #[Kv u, .bool true]) ∧ ∃ fp', PH w1 hb (A.add t p n) fp' ∧ Grew w w1 ∧ (∀ b ∈ fp', w.heap.size ≤ b) ∧ Fr (· ∈ fpr) wr w1 ∧ ∀ b ∈ fp', b ∈ fpr ∨ wr.heap.size ≤ b := by
  subst hu
  obtain ⟨rfl, fp', p1, p2, p3⟩ := h
  refine ⟨rfl, fp', p1, grew_step r2 p2 r3, fun b hb' => ?_, p2, p3⟩
  have := r2.size
  rcases p3 b hb' with h | h
  · exact r3 b h
  · omega

/-- a row beside blocks -/
structure Beside (B : Nat) (fp : List Nat) (w : World) (v : Value) (l : List Int) : Prop where
  ow : Ow w v l
  own : ∀ g, v.ownBlock = some g → B ≤ g ∧ g ∉ fp

theorem Beside.kept {B : Nat} {fp : List Nat} {w w' : World} {v : Value} {l : List Int} {F : Nat → Prop} (h : Beside B fp w v l) (k : Fr F w w') (hF : ∀ g, v.ownBlock = some g → ¬ F g) : Beside B fp w' v l :=
  ⟨h.ow.kept k hF, h.own⟩
theorem Beside.grew {B : Nat} {fp : List Nat} {w w' : World} {v : Value} {l : List Int} (h : Beside B fp w v l) (k : Grew w w') : Beside B fp w' v l := h.kept k (fun _ _ f => f)
/-- behind an Alloc -/
theorem Beside.made {B : Nat} {fp fp' : List Nat} {w w' : World} {v : Value} {l : List Int} (h : Beside B fp w v l) (k : Fr (· ∈ fp) w w') (hf : ∀ b ∈ fp', b ∈ fp ∨ w.heap.size ≤ b) : Beside B fp' w' v l :=
  ⟨h.ow.kept k (fun g hg => (h.own g hg).2), fun g hg => ⟨(h.own g hg).1, fun hm => (hf g hm).elim (h.own g hg).2 (fun q => by have := h.ow.lt hg; omega)⟩⟩

/-- behind an append -/
theorem Beside.app {B : Nat} {fp : List Nat} {w : World} {v u : Value} {l m : List Int} (h : Beside B fp w v l) (hB : B ≤ w.heap.size) (hfp : ∀ x ∈ fp, x < w.heap.size) (k : Ow w u m) (hb : l.length + m.length ≤ 17592186044416) (ty : TypeId) :
    ∃ v' w', (Builtin.append_ #[22, 22] ty #[v, u]).run Try.prog w = .ok v' w' ∧ Beside B fp w' v' (l ++ m) ∧ Fr (fun b => v.ownBlock = some b) w w' ∧ (∀ g, v'.ownBlock = some g → v.ownBlock = some g ∨ w.heap.size ≤ g) := by
  obtain ⟨v', w', h1, h2, h3, h4⟩ := app_ow h.ow k hb ty
  refine ⟨v', w', h1, ⟨h2, fun g hg => ?_⟩, h3, h4⟩
  rcases h4 g hg with e | e
  · exact h.own g e
  · exact ⟨by omega, fun hm => by have := hfp g hm; omega⟩

/-- three rows, beside blocks -/
structure Tri (B : Nat) (fp : List Nat) (w : World) (a b c : Value) (la lb lc : List Int) : Prop where
  ra : Beside B fp w a la
  rb : Beside B fp w b lb
  rc : Beside B fp w c lc
  ab : ∀ g, a.ownBlock = some g → b.ownBlock ≠ some g
  ac : ∀ g, a.ownBlock = some g → c.ownBlock ≠ some g
  bc : ∀ g, b.ownBlock = some g → c.ownBlock ≠ some g

theorem Tri.rot {B : Nat} {fp : List Nat} {w : World} {a b c : Value} {la lb lc : List Int} (t : Tri B fp w a b c la lb lc) : Tri B fp w b c a lb lc la :=
  ⟨t.rb, t.rc, t.ra, t.bc, fun g h k => t.ab g k h, fun g h k => t.ac g k h⟩
theorem Tri.grew {B : Nat} {fp : List Nat} {w w' : World} {a b c : Value} {la lb lc : List Int} (t : Tri B fp w a b c la lb lc) (k : Grew w w') : Tri B fp w' a b c la lb lc :=
  ⟨t.ra.grew k, t.rb.grew k, t.rc.grew k, t.ab, t.ac, t.bc⟩
theorem Tri.nil (B : Nat) (fp : List Nat) (w : World) : Tri B fp w (.slice none 0 0) (.slice none 0 0) (.slice none 0 0) [] [] [] :=
  ⟨⟨Ow.nil w, fun g hg => (by cases hg)⟩, ⟨Ow.nil w, fun g hg => (by cases hg)⟩, ⟨Ow.nil w, fun g hg => (by cases hg)⟩, fun g hg => (by cases hg), fun g hg => (by cases hg), fun g hg => (by cases hg)⟩
/-- an append onto the first -/
theorem Tri.app {B : Nat} {fp : List Nat} {w : World} {a b c u : Value} {la lb lc m : List Int} (t : Tri B fp w a b c la lb lc) (hB : B ≤ w.heap.size) (hfp : ∀ x ∈ fp, x < w.heap.size) (k : Ow w u m) (hb : la.length + m.length ≤ 17592186044416) (ty : TypeId) :
    ∃ a' w', (Builtin.append_ #[22, 22] ty #[a, u]).run Try.prog w = .ok a' w' ∧ Tri B fp w' a' b c (la ++ m) lb lc ∧ Fr (fun x => B ≤ x ∧ x ∉ fp) w w' := by
  obtain ⟨a', w', h1, h2, h3, h4⟩ := t.ra.app hB hfp k hb ty
  refine ⟨a', w', h1, ⟨h2, t.rb.kept h3 (fun g hg e => t.ab g e hg), t.rc.kept h3 (fun g hg e => t.ac g e hg), fun g hg => ?_, fun g hg => ?_, t.bc⟩, h3.mono (fun i _ hi => t.ra.own i hi)⟩
  · rcases h4 g hg with e | e
    · exact t.ab g e
    · exact fun hb' => by have := t.rb.ow.lt hb'; omega
  · rcases h4 g hg with e | e
    · exact t.ac g e
    · exact fun hb' => by have := t.rc.ow.lt hb'; omega
end Go.Proofs.Ytjhdnbediipibaa
