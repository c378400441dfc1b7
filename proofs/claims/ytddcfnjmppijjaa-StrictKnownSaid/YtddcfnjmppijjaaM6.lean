import Derived.Test.YtddcfnjmppijjaaM5
/-! The loops of names. -/
namespace Go.Proofs.Ytddcfnjmppijjaa
open Go.RowKit

/-- the names that the maker makes, N of them made -/
def nms (N i : Nat) : List Str := (List.range i).map fun j => nam (N + 1 + j)
theorem nms_zero (N : Nat) : nms N 0 = [] := rfl
theorem nms_succ (N i : Nat) : nms N (i + 1) = nms N i ++ [nam (N + i + 1)] := by
  simp only [nms, List.range_succ, List.map_append, List.map_cons, List.map_nil]
  rw [show N + 1 + i = N + i + 1 by omega]
theorem nms_length (N i : Nat) : (nms N i).length = i := by simp [nms]
theorem nms_nodup (N i : Nat) : (nms N i).Nodup := by
  unfold nms
  rw [List.nodup_iff_pairwise_ne, List.pairwise_map]
  exact List.nodup_range.imp (fun h e => h (by have := nam_inj e; omega))
theorem nms_ok (N i : Nat) (h : N + i < 1000000) : ∀ n ∈ nms N i, Nme n := by
  intro n hn
  obtain ⟨j, hj, rfl⟩ := List.mem_map.1 hn
  have := List.mem_range.1 hj
  exact nam_ok _ (by omega)

/-- a term's block while its names are made: W: the world when the loop begins; b: the block; v8: the names that are there -/
structure LS (W : World) (mb N b : Nat) (kd : Int) (S : List Str) (i : Nat) (v8 : Value) (wr : World) : Prop where
  keep : Fr (fun k => k = mb ∨ k = b) W wr
  cnt : Mk wr mb (N + i)
  ex : ∃ vN, wr.heap[b]? = some (.cells #[.int .i64 kd, .string ⟨#[]⟩, vN, .slice none 0 0] 28 (0, 0)) ∧ Rt W.heap.size wr vN (nms N i) ∧ Rt W.heap.size wr v8 (S ++ nms N i) ∧ ∀ g, v8.ownBlock = some g → vN.ownBlock ≠ some g

theorem nm_one (w : World) (s : Str) (o : Nat) (ho : o = w.heap.size) : Nm (w.alloc (.cells #[St s] 9)) (fun _ => False) (.slice (some ⟨o, 0, none⟩) 1 1) [s] := by
  subst ho
  refine ⟨_, 1, rfl, Nat.le_refl _, by simp [maxLen], .inr ⟨_, 0, rfl, fun f => f, fun i hi => ?_⟩⟩
  have : i = 0 := by simpa using hi
  subst this
  exact cell_of_get (heap_alloc_new _ _) 0

theorem rt_kept {B : Nat} {w w' : World} {F : Nat → Prop} {v : Value} {l : List Str} (h : Rt B w v l) (k : Fr F w w') (hF : ∀ g, v.ownBlock = some g → ¬ F g) : Rt B w' v l := by
  refine ⟨h.1, ?_⟩
  rcases h.2 with hn | ⟨g, cap, cur, rfl, hb, hgg, rest⟩
  · exact .inl hn
  · exact .inr ⟨g, cap, cur, rfl, hb, k.get hgg (hF g rfl), rest⟩

theorem LS.step {W : World} {mb N b : Nat} {kd : Int} {S : List Str} {i : Nat} {v8 : Value} {wr : World} (h : LS W mb N b kd S i v8 wr) (hb : b < W.heap.size) (hmb : mb < W.heap.size) (hne : mb ≠ b) (hl : S.length + i ≤ 900000)
    {w2 : World} (hf : Fr (fun k => k = mb) wr w2) (hm : Mk w2 mb (N + i + 1)) (s : Str) (hs : s = nam (N + i + 1)) (ty1 ty2 : TypeId) :
    ∃ vN v1 w3 v2 w5, w2.cell? ⟨b, 2, none⟩ = some vN ∧ (Builtin.append_ #[25, 25] ty1 #[vN, .slice (some ⟨w2.heap.size, 0, none⟩) 1 1]).run Try.prog (w2.alloc (.cells #[St s] 9)) = .ok v1 w3 ∧
      (Builtin.append_ #[25, 25] ty2 #[v8, .slice (some ⟨w3.heap.size, 0, none⟩) 1 1]).run Try.prog (w3.alloc (.cells #[St s] 9)) = .ok v2 w5 ∧ w5.cell? ⟨b, 2, none⟩ = some vN ∧ w5.frozen? ⟨b, 2, none⟩ = false ∧
      (∃ a n c, vN = .slice a n c) ∧ (∃ a n c, v1 = .slice a n c) ∧ (∃ a n c, v2 = .slice a n c) ∧ LS W mb N b kd S (i + 1) v2 (w5.setCell ⟨b, 2, none⟩ v1) := by
  obtain ⟨vN, hbox, hN, h8, hsep⟩ := h.ex
  have hsW : W.heap.size ≤ wr.heap.size := h.keep.size
  have hmbN : ∀ g, vN.ownBlock = some g → ¬ g = mb := fun g hg e => by have := (hN.lt g hg).1; omega
  have hmb8 : ∀ g, v8.ownBlock = some g → ¬ g = mb := fun g hg e => by have := (h8.lt g hg).1; omega
  -- behind name
  have hbox2 := hf.get hbox (fun e => hne e.symm)
  have hN2 := rt_kept hN hf hmbN
  have h82 := rt_kept h8 hf hmb8
  have hs2 := hf.size
  -- the first append
  have hg2 : Grew w2 (w2.alloc (.cells #[St s] 9)) := (Fr.refl _ _).alloc _
  obtain ⟨v1, w3, hr1, hn3, hf3, ho3⟩ := app_rt (rt_kept hN2 hg2 (fun _ _ f => f)) (by simp; omega) (nm_one w2 s _ rfl) (by rw [nms_length]; simp; omega) ty1
  have hg23 := (Grew.any (F := fun k => vN.ownBlock = some k) hg2).trans hf3 (fun _ _ e => e)
  have hbN : ¬ vN.ownBlock = some b := fun e => by have := (hN.lt b e).1; omega
  have hbox3 := hg23.get hbox2 hbN
  have h83 : Rt W.heap.size w3 v8 (S ++ nms N i) := rt_kept h82 hg23 (fun g hg => hsep g hg)
  have hs3 := hg23.size
  -- the second append
  have hg3 : Grew w3 (w3.alloc (.cells #[St s] 9)) := (Fr.refl _ _).alloc _
  obtain ⟨v2, w5, hr2, hn5, hf5, ho5⟩ := app_rt (rt_kept h83 hg3 (fun _ _ f => f)) (by simp; omega) (nm_one w3 s _ rfl) (by rw [List.length_append, nms_length]; simp; omega) ty2
  have hg35 := (Grew.any (F := fun k => v8.ownBlock = some k) hg3).trans hf5 (fun _ _ e => e)
  have hb8 : ¬ v8.ownBlock = some b := fun e => by have := (h8.lt b e).1; omega
  have hbox5 := hg35.get hbox3 hb8
  have hsep1 : ∀ g, v1.ownBlock = some g → ¬ v8.ownBlock = some g := fun g hg e => by
    rcases ho3 g hg with e1 | e1
    · exact hsep g e e1
    · have := (h82.lt g e).2
      simp at e1; omega
  have hn35 : Rt W.heap.size w5 v1 (nms N i ++ [s]) := rt_kept hn3 hg35 hsep1
  have hn5' : Rt W.heap.size w5 v2 ((S ++ nms N i) ++ [s]) := hn5
  have hset : Fr (fun k => k = b) w5 (w5.setCell ⟨b, 2, none⟩ v1) := (Fr.refl (fun k => k = b) w5).setCell (p := ⟨b, 2, none⟩) (fun _ => rfl) v1
  have hkeep5 : Fr (fun k => k = mb ∨ k = b) W w5 := by
    refine ((h.keep.trans hf (fun _ _ e => .inl e)).trans hg23 (fun k hk e => ?_)).trans hg35 (fun k hk e => ?_)
    · have := (hN.lt k e).1; omega
    · have := (h8.lt k e).1; omega
  obtain ⟨aN, cN, eN, -⟩ := hN.shape
  obtain ⟨a1, c1, e1, -⟩ := hn3.shape
  obtain ⟨a2, c2, e2, -⟩ := hn5.shape
  refine ⟨vN, v1, w3, v2, w5, cell_of_get hbox2 2, hr1, hr2, cell_of_get hbox5 2, frozen_of_get hbox5 2, ⟨aN, _, cN, eN⟩, ⟨a1, _, c1, e1⟩, ⟨a2, _, c2, e2⟩, ⟨hkeep5.trans hset (fun _ _ e => .inr e), ?_, v1, ?_, ?_, ?_, ?_⟩⟩
  · have hm5 : Mk w5 mb (N + i + 1) := hg35.get (hg23.get hm (fun e => hmbN mb e rfl)) (fun e => hmb8 mb e rfl)
    exact hset.get hm5 hne
  · simp [World.setCell, Array.getElem?_modify, hbox5]
  · rw [nms_succ, ← hs]
    exact rt_kept hn35 hset (fun g hg e => by have := (hn35.lt g hg).1; omega)
  · rw [nms_succ, ← hs, ← List.append_assoc]
    exact rt_kept hn5' hset (fun g hg e => by have := (hn5'.lt g hg).1; omega)
  · intro g hg e
    rcases ho5 g hg with e3 | e3
    · exact hsep1 g e e3
    · have h1 := (hn3.lt g e).2
      simp at e3; omega
end Go.Proofs.Ytddcfnjmppijjaa
