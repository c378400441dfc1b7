import Derived.Test.YtddcfnjmppijjaaA8
/-! Raw terms; their size; digits, name. -/
namespace Go.Proofs.Ytddcfnjmppijjaa
open Go.RowKit

/-- a raw term -/
inductive RT where
  | mk (k n : Int) (l : List RT)
def RT.k : RT → Int | .mk k _ _ => k
def RT.n : RT → Int | .mk _ n _ => n
def RT.l : RT → List RT | .mk _ _ l => l
mutual
/-- how many raw terms -/
def RT.nodes : RT → Nat
  | .mk _ _ l => 1 + nodesL l
def nodesL : List RT → Nat
  | [] => 0
  | x :: r => x.nodes + nodesL r
end
theorem RT.nodes_eq (r : RT) : r.nodes = 1 + nodesL r.l := by cases r; rfl

/-- The slice v reads as these raw terms; no block that they lead to is one of D. -/
inductive RRow (w : World) (D : Nat → Prop) : Value → List RT → Prop
  | nil (ad : Option Addr) (cap : Nat) (hm : cap ≤ maxLen) : RRow w D (.slice ad 0 cap) []
  | mk (l : List RT) (g o cap : Nat) (va : Nat → Value) (hn : l.length ≤ cap) (hm : cap ≤ maxLen) (hD : ¬ D g)
      (h0 : ∀ i (hi : i < l.length), w.cell? ⟨g, o + i * 3, none⟩ = some (Kv l[i].k))
      (h1 : ∀ i (hi : i < l.length), w.cell? ⟨g, o + i * 3 + 1, none⟩ = some (Kv l[i].n))
      (h2 : ∀ i, i < l.length → w.cell? ⟨g, o + i * 3 + 2, none⟩ = some (va i))
      (hR : ∀ i (hi : i < l.length), RRow w D (va i) l[i].l) : RRow w D (.slice (some ⟨g, o, none⟩) l.length cap) l

theorem RRow.kept {w w' : World} {F D : Nat → Prop} {v : Value} {l : List RT} (h : RRow w D v l) (k : Fr F w w') (hF : ∀ b, F b → D b) : RRow w' D v l := by
  induction h with
  | nil ad cap hm => exact .nil ad cap hm
  | mk l g o cap va hn hm hD h0 h1 h2 _ ih =>
    have hg : ¬ F g := fun f => hD (hF g f)
    exact .mk l g o cap va hn hm hD (fun i hi => k.cell (h0 i hi) hg) (fun i hi => k.cell (h1 i hi) hg) (fun i hi => k.cell (h2 i hi) hg) ih

theorem RRow.mono {w : World} {D E : Nat → Prop} {v : Value} {l : List RT} (h : RRow w D v l) (hE : ∀ b, b < w.heap.size → E b → D b) : RRow w E v l := by
  induction h with
  | nil ad cap hm => exact .nil ad cap hm
  | mk l g o cap va hn hm hD h0 h1 h2 _ ih =>
    by_cases hl : l = []
    · subst hl; exact .nil _ cap hm
    · have hp : 0 < l.length := by cases l <;> simp_all
      exact .mk l g o cap va hn hm (fun e => hD (hE _ (World.block_lt_of_cell? w _ (h0 0 hp)) e)) h0 h1 h2 ih

theorem RRow.shape {w : World} {D : Nat → Prop} {v : Value} {l : List RT} (h : RRow w D v l) : ∃ ad cap, v = .slice ad l.length cap ∧ l.length ≤ cap ∧ cap ≤ maxLen := by
  cases h with
  | nil ad cap hm => exact ⟨ad, cap, rfl, Nat.zero_le _, hm⟩
  | mk l g o cap va hn hm => exact ⟨_, cap, rfl, hn, hm⟩

/-- at p of the block g lies the raw term x -/
structure REl (w : World) (D : Nat → Prop) (g p : Nat) (x : RT) (aa : Option Addr) (ca : Nat) : Prop where
  c0 : w.cell? ⟨g, p, none⟩ = some (Kv x.k)
  c1 : w.cell? ⟨g, p + 1, none⟩ = some (Kv x.n)
  c2 : w.cell? ⟨g, p + 2, none⟩ = some (.slice aa x.l.length ca)
  row : RRow w D (.slice aa x.l.length ca) x.l

theorem RRow.ind {w : World} {D : Nat → Prop} {P : Value → List RT → Prop} (hnil : ∀ ad cap, cap ≤ maxLen → P (.slice ad 0 cap) [])
    (hmk : ∀ (l : List RT) (g o cap : Nat), l.length ≤ cap → cap ≤ maxLen → ¬ D g → (∀ i x, l[i]? = some x → ∃ aa ca, REl w D g (o + i * 3) x aa ca ∧ P (.slice aa x.l.length ca) x.l) → P (.slice (some ⟨g, o, none⟩) l.length cap) l)
    {v : Value} {l : List RT} (h : RRow w D v l) : P v l := by
  induction h with
  | nil ad cap hm => exact hnil ad cap hm
  | mk l g o cap va hn hm hD h0 h1 h2 hR ih =>
    refine hmk l g o cap hn hm hD fun i x hx => ?_
    obtain ⟨hi, rfl⟩ := List.getElem?_eq_some_iff.1 hx
    obtain ⟨aa, ca, ea, -⟩ := (hR i hi).shape
    refine ⟨aa, ca, ⟨h0 i hi, h1 i hi, by rw [h2 i hi, ea], by rw [← ea]; exact hR i hi⟩, ?_⟩
    rw [← ea]; exact ih i hi

theorem RRow.elems {w : World} {D : Nat → Prop} {v : Value} {l : List RT} (h : RRow w D v l) : l = [] ∨ ∃ g o cap, v = .slice (some ⟨g, o, none⟩) l.length cap ∧ l.length ≤ cap ∧ cap ≤ maxLen ∧ ¬ D g ∧
    ∀ i x, l[i]? = some x → ∃ aa ca, REl w D g (o + i * 3) x aa ca := by
  refine RRow.ind (P := fun v l => l = [] ∨ ∃ g o cap, v = .slice (some ⟨g, o, none⟩) l.length cap ∧ l.length ≤ cap ∧ cap ≤ maxLen ∧ ¬ D g ∧ ∀ i x, l[i]? = some x → ∃ aa ca, REl w D g (o + i * 3) x aa ca) (fun _ _ _ => .inl rfl) (fun l g o cap h1 h2 h3 h4 => .inr ⟨g, o, cap, rfl, h1, h2, h3, fun i x hx => ?_⟩) h
  obtain ⟨aa, ca, h5, _⟩ := h4 i x hx
  exact ⟨aa, ca, h5⟩

/-! digits -/

/-- a number's digits -/
def dg (n : Nat) : Str := if h : 10 ≤ n then dg (n / 10) ++ dg (n % 10) else [UInt8.ofNat (48 + n)]
termination_by n
decreasing_by all_goals omega

/-- what digits are worth -/
def val : Str → Nat := List.foldl (fun a c => a * 10 + (c.toNat - 48)) 0
theorem val_snoc (l : Str) (c : UInt8) : val (l ++ [c]) = val l * 10 + (c.toNat - 48) := by simp [val]
theorem dg_small (n : Nat) (h : n < 10) : dg n = [UInt8.ofNat (48 + n)] := by rw [dg]; simp [show ¬ 10 ≤ n by omega]
theorem dg_big (n : Nat) (h : 10 ≤ n) : dg n = dg (n / 10) ++ dg (n % 10) := by rw [dg]; simp [h]
theorem val_dg (n : Nat) : val (dg n) = n := by
  induction n using Nat.strongRecOn with
  | _ n ih =>
    by_cases h : 10 ≤ n
    · rw [dg_big n h, dg_small (n % 10) (by omega), val_snoc, ih (n / 10) (by omega)]
      have : (UInt8.ofNat (48 + n % 10)).toNat = 48 + n % 10 := by simp; omega
      rw [this]; omega
    · rw [dg_small n (by omega)]
      have : (UInt8.ofNat (48 + n)).toNat = 48 + n := by simp; omega
      simp [val]; omega
theorem dg_inj {m n : Nat} (h : dg m = dg n) : m = n := by rw [← val_dg m, h, val_dg]
theorem dg_ascii (n : Nat) : ∀ b ∈ dg n, b.toNat < 128 := by
  induction n using Nat.strongRecOn with
  | _ n ih =>
    by_cases h : 10 ≤ n
    · rw [dg_big n h]
      intro b hb
      rcases List.mem_append.1 hb with hb | hb
      · exact ih _ (by omega) b hb
      · exact ih _ (by omega) b hb
    · rw [dg_small n (by omega)]
      intro b hb
      simp at hb; subst hb
      simp; omega
theorem dg_length (k : Nat) : ∀ n, n < 10 ^ k → (dg n).length ≤ k + 1 := by
  induction k with
  | zero => intro n h; rw [dg_small n (by omega)]; simp
  | succ k ih =>
    intro n h
    by_cases hn : 10 ≤ n
    · rw [dg_big n hn, dg_small (n % 10) (by omega)]
      have := ih (n / 10) (by rw [Nat.pow_succ] at h; omega)
      simp; omega
    · rw [dg_small n (by omega)]; simp

/-- a name of the maker's own -/
def nam (i : Nat) : Str := [118, 46] ++ dg i
theorem nam_inj {m n : Nat} (h : nam m = nam n) : m = n := dg_inj (List.append_cancel_left h)
/-- a text that may be a name -/
def Nme (s : Str) : Prop := s ≠ [] ∧ s.length ≤ 30 ∧ ∀ b ∈ s, b.toNat < 128
theorem nam_ok (i : Nat) (h : i < 10000000) : Nme (nam i) := by
  refine ⟨by simp [nam], ?_, fun b hb => ?_⟩
  · have := dg_length 7 i (by omega)
    simp [nam]; omega
  · rcases List.mem_append.1 hb with hb | hb
    · simp at hb; rcases hb with rfl | rfl <;> decide
    · exact dg_ascii i b hb
end Go.Proofs.Ytddcfnjmppijjaa
