import Derived.Test.YtddcfnjmppijjaaM22
/-! Term's names. -/
namespace Go.Proofs.Ytddcfnjmppijjaa
open Go.RowKit

/-- a let's block while its names are made -/
structure NT (W : World) (mb b i : Nat) (vN : Value) (wr : World) : Prop where
  keep : Fr (fun k => k = mb ∨ k = b) W wr
  cnt : Mk wr mb i
  box : wr.heap[b]? = some (.cells #[.int .i64 9, .string ⟨#[]⟩, vN, .slice none 0 0] 28 (0, 0))
  row : Rt W.heap.size wr vN (nms 0 i)

def N0 (wr : World) (mb i : Nat) (w : World) : Prop := Fr (fun k => k = mb) wr w ∧ Mk w mb i
def N6 (wr : World) (mb i : Nat) (v : Value) (w : World) : Prop := v = St (nam (i + 1)) ∧ Fr (fun k => k = mb) wr w ∧ Mk w mb (i + 1)
def N7 (wr : World) (mb i : Nat) (v : Value) (w : World) : Prop := ∃ w5, v = .slice (some ⟨w5.heap.size, 0, none⟩) 1 1 ∧ w = w5.alloc (.cells #[St (nam (i + 1))] 9) ∧ Fr (fun k => k = mb) wr w5 ∧ Mk w5 mb (i + 1)
def N8 (W : World) (mb b i : Nat) (vN : Value) (v : Value) (w : World) : Prop := (∃ a m c, v = .slice a m c) ∧ w.cell? ⟨b, 2, none⟩ = some vN ∧ w.frozen? ⟨b, 2, none⟩ = false ∧ NT W mb b (i + 1) v (w.setCell ⟨b, 2, none⟩ v)

theorem N8.of {W : World} {mb b i : Nat} {vN : Value} {wr : World} (h : NT W mb b i vN wr) (hb : b < W.heap.size) (hmb : mb < W.heap.size) (hne : mb ≠ b) (hi : i ≤ 100) {u : Value} {w : World} (h7 : N7 wr mb i u w) (ty : TypeId) :
    ∃ v1 w6, (Builtin.append_ #[25, 25] ty #[vN, u]).run Try.prog w = .ok v1 w6 ∧ N8 W mb b i vN v1 w6 ∧ Fr (fun k => k = mb ∨ vN.ownBlock = some k) w w6 := by
  obtain ⟨w2, rfl, rfl, hf, hm⟩ := h7
  obtain ⟨keep, cnt, box, row⟩ := h
  have hsW := keep.size
  have hmbN : ∀ g, vN.ownBlock = some g → ¬ g = mb := fun g hg e => by have := (row.lt g hg).1; omega
  have hs2 := hf.size
  have hN2 := rt_kept row hf hmbN
  have hg2 : Grew w2 (w2.alloc (.cells #[St (nam (i + 1))] 9)) := (Fr.refl _ _).alloc _
  obtain ⟨v1, w3, hr1, hn3, hf3, ho3⟩ := app_rt (rt_kept hN2 hg2 (fun _ _ f => f)) (by simp; omega) (nm_one w2 (nam (i + 1)) _ rfl) (by rw [nms_length]; simp; omega) ty
  have hg23 := (Grew.any (F := fun k => vN.ownBlock = some k) hg2).trans hf3 (fun _ _ e => e)
  have hbN : ¬ vN.ownBlock = some b := fun e => by have := (row.lt b e).1; omega
  have box3 := hg23.get (hf.get box (fun e => hne e.symm)) hbN
  have hset : Fr (fun k => k = b) w3 (w3.setCell ⟨b, 2, none⟩ v1) := (Fr.refl (fun k => k = b) w3).setCell (p := ⟨b, 2, none⟩) (fun _ => rfl) v1
  obtain ⟨a1, c1, e1, -⟩ := hn3.shape
  refine ⟨v1, w3, hr1, ⟨⟨a1, _, c1, e1⟩, cell_of_get box3 2, frozen_of_get box3 2, ?_, ?_, ?_, ?_⟩, hf3.mono (fun _ _ e => .inr e)⟩
  · exact ((keep.trans hf (fun _ _ e => .inl e)).trans hg23 (fun k hk e => by have := (row.lt k e).1; omega)).trans hset (fun _ _ e => .inr e)
  · exact hset.get (hg23.get hm (fun e => hmbN mb e rfl)) hne
  · simp [World.setCell, Array.getElem?_modify, box3]
  · rw [nms_succ, Nat.zero_add]
    exact rt_kept hn3 hset (fun g hg e => by have := (hn3.lt g hg).1; omega)

/-- what is made of the raw terms ahead -/
def TM (l : List RT) (j : Nat) : Nat := 8 * nodesL ((l.drop 1).take j)
theorem TM_succ (l : List RT) (j : Nat) (r : RT) (h : l[j + 1]? = some r) : TM l (j + 1) = TM l j + 8 * (1 + nodesL r.l) := by
  have h1 : (l.drop 1)[j]? = some r := by rw [List.getElem?_drop, Nat.add_comm]; exact h
  have := nodesL_take (l.drop 1) j r h1
  unfold TM; omega
theorem TM_le (x : RT) (r : List RT) (j : Nat) : TM (x :: r) j + 8 * (1 + nodesL x.l) ≤ 8 * nodesL (x :: r) := by
  have := nodesL_take_le r j
  have e := RT.nodes_eq x
  simp only [TM, List.drop_succ_cons, List.drop_zero, nodesL]
  omega

/-- what Term leaves -/
def TmPost (w : World) (l : List RT) (e : Ending) (w' : World) : Prop :=
  ∃ e' x, e = .returned e' ∧ Rd w' (fun b => b < w.heap.size) e' x ∧ Good [] x ∧ x.size ≤ 2 + 8 * nodesL l ∧ Grew w w'

theorem at_init {w W2 W3 wo : World} {q : Nat} {vN : Value} (_hg2 : Grew w W2) (hs2 : W2.heap.size = w.heap.size + 2) (hg3 : Grew W2 W3) (h : NT W3 (w.heap.size + 1) (w.heap.size + 1 + 1) q vN wo) :
    AT W2 (w.heap.size + 1) q (w.heap.size + 1 + 1) wo.heap.size wo 9 [] vN (nms 0 q) 0 0 (.slice none 0 0) [] wo :=
  ⟨(Grew.any (F := fun k => k = w.heap.size + 1) hg3).trans h.keep (fun k hk e => by rcases e with e | e <;> omega), ⟨q, h.cnt, Nat.le_refl _, by omega⟩, h.box, OX.nil _ _, rfl, fun x hx => by simp at hx, by simp [sizes], Nat.le_refl _, Fr.refl _ _, rfl⟩

theorem term_done {w W2 W3 wo w7 : World} {l : List RT} {q M B : Nat} {vN vA : Value} {xs : List X} (hg2 : Grew w W2) (_hs2 : W2.heap.size = w.heap.size + 2) (_hg3 : Grew W2 W3) (hs3 : W3.heap.size = w.heap.size + 3) (hnt : NT W3 (w.heap.size + 1) (w.heap.size + 1 + 1) q vN wo)
    (h : AT W2 (w.heap.size + 1) q (w.heap.size + 1 + 1) B wo 9 [] vN (nms 0 q) (q + 1) M vA xs w7) (hM : M ≤ 8 * nodesL l) (hq1 : 1 ≤ q) (hq2 : q ≤ 4) (u0 u1 u2 u3 : Value) :
    TmPost w l (.returned (.agg #[Kv 9, St [], vN, vA])) (set4 w7 w.heap.size u0 u1 u2 u3) := by
  have hk := hnt.keep.size
  have ho := h.old.size
  have hB := h.oldB
  have h4 := set4_fr w7 w.heap.size u0 u1 u2 u3
  have hN : Nm wo (fun b => b < W3.heap.size) vN (nms 0 q) := nm_of_rt hnt.row
  have hN7 : Nm w7 (fun b => b < W3.heap.size) vN (nms 0 q) := hN.kept h.old (fun b e => by rcases e with e | e <;> omega)
  have hR7 := h.ox.rows
  have hl := h.len
  refine ⟨_, .mk 9 [] (nms 0 q) xs, rfl, ⟨vN, vA, rfl, (hN7.kept h4 (fun b e => by omega)).mono (fun b _ e => by omega), ((hR7.mono (E := fun b => b < w.heap.size + 1) (fun b _ e => by omega)).kept h4 (fun b e => by omega)).mono (fun b _ e => by omega)⟩, ?_, ?_, ?_⟩
  · refine .lets [] (nms 0 q) xs (fun e => ?_) (by rw [nms_length]; omega) (nms_nodup _ _) (nms_ok _ _ (by omega)) (by rw [nms_length]; omega) (by simpa using h.good)
    have := congrArg List.length e
    rw [nms_length] at this
    simp at this; omega
  · have := h.size
    simp only [X.size]; omega
  · have h1 : Fr (fun k => k = w.heap.size + 1 ∨ k = w.heap.size) W2 (set4 w7 w.heap.size u0 u1 u2 u3) := (h.fr.mono (fun _ _ e => .inl e)).trans h4 (fun _ _ e => .inr e)
    exact hg2.trans h1 (fun k hk e => by rcases e with e | e <;> omega)

abbrev mkB : Obj := .cells #[.int .i64 0] 56
theorem cell_back {w5 : World} {b : Nat} {v : Value} {cs : Array Value} {t : TypeId} (hbox : (w5.setCell ⟨b, 3, none⟩ v).heap[b]? = some (.cells cs t (0, 0))) (i : Nat) (hi : i ≠ 3) {x : Value} (h : cs[i]? = some x) : w5.cell? ⟨b, i, none⟩ = some x :=
  ((World.cell?_setCell_other (w := w5) (a := ⟨b, 3, none⟩) (b := ⟨b, i, none⟩) (v := v) (by simp <;> omega)).symm.trans (cell_of_get hbox i)).trans h
end Go.Proofs.Ytddcfnjmppijjaa
