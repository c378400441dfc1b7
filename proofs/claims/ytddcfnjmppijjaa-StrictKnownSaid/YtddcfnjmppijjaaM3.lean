import Derived.Test.YtddcfnjmppijjaaM2
/-! Appends onto rows of one's own; rows of terms of one's own. -/
namespace Go.Proofs.Ytddcfnjmppijjaa
open Go.RowKit

theorem ownsRow_le' {w : World} {B C : Nat} {e : TypeId} {k n : Nat} {v : Value} {xs : List Value} (h : w.ownsRow B e k v n xs) (hC : C ≤ B) : w.ownsRow C e k v n xs := by
  refine ⟨h.1, ?_⟩
  rcases h.2 with h2 | ⟨g, cap, cur, hv, hB, r⟩
  · exact .inl h2
  · exact .inr ⟨g, cap, cur, hv, by omega, r⟩

/-- append(v, u...) onto a row of one's own -/
theorem app_gen {e T : TypeId} {k bytes : Nat} (hT : Try.prog.underlying T = some (.slice e)) {i : TypeInfo} {z : Value} (hi : Try.prog.info? e = some i) (hz : i.zero = some z) (hsz : i.size = k) (hby : i.bytes = bytes) (hzc : z.cells.size = k) (hk : 0 < k)
    {B : Nat} {w : World} {v : Value} {n : Nat} {xs : List Value} (h : w.ownsRow B e k v n xs) (hB : B ≤ w.heap.size) (a : Addr) (m c : Nat) (news : List Value) (hl : news.length = m * k)
    (hnews : ∀ j u, news[j]? = some u → w.cell? (a.add j) = some u) (h1 : ∀ u ∈ news, u.oneCell' = true) (hm : n + m ≤ 1000000) (hbs : bytes ≤ 1000) (ty : TypeId) :
    ∃ v' w', (Builtin.append_ #[T, T] ty #[v, .slice (some a) m c]).run Try.prog w = .ok v' w' ∧ w'.ownsRow B e k v' (n + m) (xs ++ news) ∧ Fr (fun b => v.ownBlock = some b) w w' ∧ (∀ g, v'.ownBlock = some g → v.ownBlock = some g ∨ w.heap.size ≤ g) := by
  have hb : (n + m) * bytes ≤ 140737488355328 := Nat.le_trans (Nat.mul_le_mul hm hbs) (by omega)
  have hml : n + m ≤ maxLen := by unfold maxLen; omega
  rcases h.2 with ⟨rfl, rfl⟩ | ⟨gv, cv, cuv, rfl, hgB, hgv, hvn, hvm, hvs, hvt⟩
  · have hxs : xs = [] := List.eq_nil_of_length_eq_zero (by have := h.1; omega)
    subst hxs
    obtain ⟨v', w', hr, ho, hg, _⟩ := run_append_own (P := Try.prog) w w.heap.size T ty e i z k bytes hT hi hz hsz hby hzc hk (.slice none 0 0) 0 [] (World.ownsRow_nil w _ e k) a m c news hl hnews h1 hml hb (Nat.le_refl _)
    exact ⟨v', w', hr, ownsRow_le' ho hB, (Fr.refl _ w).grown hg (fun k hk _ => hk), fun g hgg => .inr (ho.lt g hgg).1⟩
  · obtain ⟨v', w', hr, ho, hg, _⟩ := run_append_own (P := Try.prog) w B T ty e i z k bytes hT hi hz hsz hby hzc hk _ n xs h a m c news hl hnews h1 hml hb hB
    refine ⟨v', w', hr, ho, (Fr.refl _ w).grown hg (fun k hk _ => hk), fun g hgg => ?_⟩
    by_cases hroom : n + m ≤ cv
    · have hr2 := run_append_room (P := Try.prog) w T ty e i hT hi gv n cv cuv hgv a m c news (by rw [hsz]; exact hl) hnews h1 hroom (by rw [hsz, hvs, hl, ← Nat.add_mul]; exact Nat.mul_le_mul_right _ hroom)
      rw [hr2] at hr
      cases hr
      exact .inl hgg
    · have holds : ∀ j y, xs[j]? = some y → w.cell? ((⟨gv, 0, none⟩ : Addr).add j) = some y := World.ownsRow.cells h (g := gv) rfl
      have hr2 := run_append_grow (P := Try.prog) w T ty e i z hT hi hz ⟨gv, 0, none⟩ n cv xs (by rw [hsz]; exact h.1) holds a m c news (by rw [hsz]; exact hl) hnews (by omega) (by omega) (by rw [hby]; exact growslice_fits (by omega) hb)
      rw [hr2] at hr
      cases hr
      simp [Value.ownBlock] at hgg
      exact .inr (by omega)

theorem Try.u25 : Try.prog.underlying 25 = some (.slice 9) := by kernel_rfl
theorem Try.u26 : Try.prog.underlying 26 = some (.slice 28) := by kernel_rfl
theorem Try.i9 : (Try.prog.info? 9).map (fun i => (i.zero, i.size, i.bytes)) = some (some (.string ⟨#[]⟩), 1, 16) := by kernel_rfl
theorem Try.i28 : (Try.prog.info? 28).map (fun i => (i.zero, i.size, i.bytes)) = some (some (.agg #[.int .i64 0, .string ⟨#[]⟩, .slice none 0 0, .slice none 0 0]), 4, 72) := by kernel_rfl

theorem addr_at (g o j : Nat) : (⟨g, o, none⟩ : Addr).add j = ⟨g, o + j, none⟩ := by
  unfold Addr.add; split <;> simp_all

/-- append of texts, wherever they lie -/
theorem app_rt {B : Nat} {w : World} {v : Value} {l : List Str} (h : Rt B w v l) (hB : B ≤ w.heap.size) {D : Nat → Prop} {u : Value} {m : List Str} (k : Nm w D u m) (hm : l.length + m.length ≤ 1000000) (ty : TypeId) :
    ∃ v' w', (Builtin.append_ #[25, 25] ty #[v, u]).run Try.prog w = .ok v' w' ∧ Rt B w' v' (l ++ m) ∧ Fr (fun b => v.ownBlock = some b) w w' ∧ (∀ g, v'.ownBlock = some g → v.ownBlock = some g ∨ w.heap.size ≤ g) := by
  obtain ⟨i, hi, hz, h1, h2⟩ := info_parts Try.i9
  obtain ⟨ad, cap, rfl, hc, hcm, hk⟩ := k
  have hnews : ∀ (g o : Nat), ad = some ⟨g, o, none⟩ → (∀ i (hi : i < m.length), w.cell? ⟨g, o + i, none⟩ = some (St m[i])) → ∃ v' w', (Builtin.append_ #[25, 25] ty #[v, .slice ad m.length cap]).run Try.prog w = .ok v' w' ∧ Rt B w' v' (l ++ m) ∧ Fr (fun b => v.ownBlock = some b) w w' ∧ (∀ g, v'.ownBlock = some g → v.ownBlock = some g ∨ w.heap.size ≤ g) := by
    intro g o e hcell
    subst e
    obtain ⟨v', w', hr, ho, hf, hg⟩ := app_gen Try.u25 hi hz h1 h2 rfl (by omega) h hB ⟨g, o, none⟩ m.length cap (m.map St) (by simp) (fun j u hj => by
      rw [List.getElem?_map] at hj
      obtain ⟨x, hx, rfl⟩ := Option.map_eq_some_iff.1 hj
      obtain ⟨hlt, rfl⟩ := List.getElem?_eq_some_iff.1 hx
      rw [addr_at]; exact hcell j hlt) (fun u hu => by obtain ⟨x, _, rfl⟩ := List.mem_map.1 hu; rfl) hm (by omega) ty
    exact ⟨v', w', hr, by unfold Rt; rw [List.length_append, List.map_append]; exact ho, hf, hg⟩
  rcases hk with rfl | ⟨g, o, e, -, hcell⟩
  · cases ad with
    | some a =>
      obtain ⟨v', w', hr, ho, hf, hg⟩ := app_gen Try.u25 hi hz h1 h2 rfl (by omega) h hB a 0 cap [] (by simp) (fun j u hj => by simp at hj) (fun u hu => by simp at hu) (by simpa using hm) (by omega) ty
      exact ⟨v', w', hr, by unfold Rt; simpa using ho, hf, hg⟩
    | none =>
      rcases h.2 with ⟨rfl, h0⟩ | ⟨g, c2, cur, rfl, _, _, hnc, _⟩
      · have hl : l = [] := List.eq_nil_of_length_eq_zero h0
        subst hl
        exact ⟨.slice none 0 0, w, by simp [Builtin.append_, run_underlying Try.u25, sizeOf, typeInfo, hi, Builtin.lenOf, Builtin.firstCells], by simpa using h, Fr.refl _ _, fun g hg => .inl hg⟩
      · exact ⟨_, w, by simp [Builtin.append_, run_underlying Try.u25, sizeOf, typeInfo, hi, Builtin.lenOf, Builtin.firstCells, hnc, storeCells], by simpa using h, Fr.refl _ _, fun g hg => .inl hg⟩
  · exact hnews g o e hcell

/-- the blocks that the terms of a row of one's own may not lead to -/
abbrev Dv (B : Nat) (v : Value) : Nat → Prop := fun b => b < B ∨ v.ownBlock = some b

/-- a row of terms of one's own -/
structure OX (B : Nat) (w : World) (v : Value) (l : List X) : Prop where
  row : ∃ fl, w.ownsRow B 28 4 v l.length fl ∧ ∀ i x, l[i]? = some x → ∃ vn va, fl[i * 4]? = some (Kv x.kind) ∧ fl[i * 4 + 1]? = some (St x.text) ∧ fl[i * 4 + 2]? = some vn ∧ fl[i * 4 + 3]? = some va ∧ Nm w (Dv B v) vn x.names ∧ Row w (Dv B v) va x.parts

theorem OX.nil (B : Nat) (w : World) : OX B w (.slice none 0 0) [] := ⟨[], World.ownsRow_nil _ _ _ _, fun i x h => by simp at h⟩

theorem OX.kept {B : Nat} {w w' : World} {F : Nat → Prop} {v : Value} {l : List X} (h : OX B w v l) (k : Fr F w w') (hF : ∀ b, F b → b < B) : OX B w' v l := by
  obtain ⟨fl, ho, hel⟩ := h.row
  refine ⟨fl, ⟨ho.1, ?_⟩, fun i x hx => ?_⟩
  · rcases ho.2 with h2 | ⟨g, cap, cur, hv, hB, hg, r⟩
    · exact .inl h2
    · exact .inr ⟨g, cap, cur, hv, hB, k.get hg (fun f => by have := hF _ f; omega), r⟩
  · obtain ⟨vn, va, e0, e1, e2, e3, hn, hr⟩ := hel i x hx
    exact ⟨vn, va, e0, e1, e2, e3, hn.kept k (fun b f => .inl (hF b f)), hr.kept k (fun b f => .inl (hF b f))⟩

theorem OX.shape {B : Nat} {w : World} {v : Value} {l : List X} (h : OX B w v l) : ∃ a c, v = .slice a l.length c ∧ l.length ≤ c ∧ c ≤ maxLen := by
  obtain ⟨fl, ho, -⟩ := h.row
  rcases ho.2 with ⟨h1, h2⟩ | ⟨g, cap, cur, hv, _, _, h3, h4, _⟩
  · exact ⟨none, 0, by rw [h1, h2], by omega, by simp [maxLen]⟩
  · exact ⟨_, cap, hv, h3, h4⟩

theorem OX.lt {B : Nat} {w : World} {v : Value} {l : List X} (h : OX B w v l) {g : Nat} (hg : v.ownBlock = some g) : B ≤ g ∧ g < w.heap.size := by
  obtain ⟨fl, ho, -⟩ := h.row
  exact ho.lt g hg

/-- a row of one's own reads as its terms -/
theorem OX.rows {B : Nat} {w : World} {v : Value} {l : List X} (h : OX B w v l) : Row w (fun b => b < B) v l := by
  obtain ⟨fl, ho, hel⟩ := h.row
  rcases ho.2 with ⟨rfl, h2⟩ | ⟨g, cap, cur, rfl, hgB, hg, h3, h4, h5, h6⟩
  · have : l = [] := List.eq_nil_of_length_eq_zero h2
    subst this
    exact .nil none 0 (by simp [maxLen])
  · have hcell : ∀ j u, fl[j]? = some u → w.cell? ⟨g, j, none⟩ = some u := fun j u hj => by
      have := World.ownsRow.cells ho (g := g) rfl j u hj
      rwa [addr_at, Nat.zero_add] at this
    have hd : ∀ i x, l[i]? = some x → ∃ p : Value × Value, fl[i * 4]? = some (Kv x.kind) ∧ fl[i * 4 + 1]? = some (St x.text) ∧ fl[i * 4 + 2]? = some p.1 ∧ fl[i * 4 + 3]? = some p.2 ∧ Nm w (Dv B (.slice (some ⟨g, 0, none⟩) l.length cap)) p.1 x.names ∧ Row w (Dv B (.slice (some ⟨g, 0, none⟩) l.length cap)) p.2 x.parts := fun i x hx => by
      obtain ⟨vn, va, r⟩ := hel i x hx
      exact ⟨(vn, va), r⟩
    obtain ⟨f, hf⟩ : ∃ f : Nat → Value × Value, ∀ i (hi : i < l.length), fl[i * 4]? = some (Kv l[i].kind) ∧ fl[i * 4 + 1]? = some (St l[i].text) ∧ fl[i * 4 + 2]? = some (f i).1 ∧ fl[i * 4 + 3]? = some (f i).2 ∧ Nm w (Dv B (.slice (some ⟨g, 0, none⟩) l.length cap)) (f i).1 l[i].names ∧ Row w (Dv B (.slice (some ⟨g, 0, none⟩) l.length cap)) (f i).2 l[i].parts := by
      refine ⟨fun i => if hi : i < l.length then Classical.choose (hd i l[i] (List.getElem?_eq_getElem hi)) else (.nilFunc, .nilFunc), fun i hi => ?_⟩
      have := Classical.choose_spec (hd i l[i] (List.getElem?_eq_getElem hi))
      simpa [hi] using this
    refine .mk l g 0 cap (fun i => (f i).1) (fun i => (f i).2) h3 h4 (by omega) ?_ ?_ ?_ ?_ ?_ ?_
    · intro i hi; rw [Nat.zero_add]; exact hcell _ _ (hf i hi).1
    · intro i hi; rw [Nat.zero_add]; exact hcell _ _ (hf i hi).2.1
    · intro i hi; rw [Nat.zero_add]; exact hcell _ _ (hf i hi).2.2.1
    · intro i hi; rw [Nat.zero_add]; exact hcell _ _ (hf i hi).2.2.2.1
    · intro i hi; exact (hf i hi).2.2.2.2.1.mono (fun b _ h => .inl h)
    · intro i hi; exact (hf i hi).2.2.2.2.2.mono (fun b _ h => .inl h)

/-- a term is put behind a row of one's own -/
theorem OX.app {B : Nat} {w : World} {v : Value} {l : List X} (h : OX B w v l) (hB : B ≤ w.heap.size) (hl : l.length ≤ 1000) {x : X} {gu : Nat} {vn va : Value}
    (hc : w.heap[gu]? = some (.cells #[Kv x.kind, St x.text, vn, va] 28 (0, 0))) (hn : Nm w (Dv B v) vn x.names) (hr : Row w (Dv B v) va x.parts) (ty : TypeId) :
    ∃ v' w', (Builtin.append_ #[26, 26] ty #[v, .slice (some ⟨gu, 0, none⟩) 1 1]).run Try.prog w = .ok v' w' ∧ OX B w' v' (l ++ [x]) ∧ Fr (fun b => v.ownBlock = some b) w w' := by
  obtain ⟨i, hi, hz, h1, h2⟩ := info_parts Try.i28
  obtain ⟨fl, ho, hel⟩ := h.row
  obtain ⟨an, cn, rfl, -⟩ := hn.shape
  obtain ⟨aa, ca, rfl, -⟩ := hr.shape
  obtain ⟨v', w', hrun, ho', hf, hg⟩ := app_gen Try.u26 hi hz h1 h2 rfl (by omega) ho hB ⟨gu, 0, none⟩ 1 1 [Kv x.kind, St x.text, .slice an x.names.length cn, .slice aa x.parts.length ca] (by simp) (fun j u hj => by
    rw [addr_at, Nat.zero_add, cell_of_get hc]
    match j, hj with
    | 0, hj => simpa using hj
    | 1, hj => simpa using hj
    | 2, hj => simpa using hj
    | 3, hj => simpa using hj
    | j + 4, hj => simp at hj) (fun u hu => by simp at hu; rcases hu with rfl | rfl | rfl | rfl <;> rfl) (by omega) (by omega) ty
  refine ⟨v', w', hrun, ⟨_, by rw [List.length_append]; exact ho', fun j y hy => ?_⟩, hf⟩
  have hN : ∀ u m, Nm w (Dv B v) u m → Nm w' (Dv B v') u m := fun u m k =>
    ((k.mono (E := fun b => Dv B v b ∨ v'.ownBlock = some b) (fun b hb e => by
      rcases e with e | e
      · exact e
      · rcases hg b e with e | e
        · exact .inr e
        · omega)).kept hf (fun b e => .inl (.inr e))).mono (fun b _ e => by
      rcases e with e | e
      · exact .inl (.inl e)
      · exact .inr e)
  have hR : ∀ u m, Row w (Dv B v) u m → Row w' (Dv B v') u m := fun u m k =>
    ((k.mono (E := fun b => Dv B v b ∨ v'.ownBlock = some b) (fun b hb e => by
      rcases e with e | e
      · exact e
      · rcases hg b e with e | e
        · exact .inr e
        · omega)).kept hf (fun b e => .inl (.inr e))).mono (fun b _ e => by
      rcases e with e | e
      · exact .inl (.inl e)
      · exact .inr e)
  have hfl : fl.length = l.length * 4 := ho.1
  by_cases hj : j < l.length
  · rw [List.getElem?_append_left hj] at hy
    obtain ⟨vn, va, e0, e1, e2, e3, k1, k2⟩ := hel j y hy
    refine ⟨vn, va, ?_, ?_, ?_, ?_, hN _ _ k1, hR _ _ k2⟩
    · rw [List.getElem?_append_left (by omega)]; exact e0
    · rw [List.getElem?_append_left (by omega)]; exact e1
    · rw [List.getElem?_append_left (by omega)]; exact e2
    · rw [List.getElem?_append_left (by omega)]; exact e3
  · rw [List.getElem?_append_right (by omega)] at hy
    have hj2 : j = l.length := by
      have := (List.getElem?_eq_some_iff.1 hy).1
      simp at this; omega
    subst hj2
    simp at hy
    subst hy
    refine ⟨_, _, ?_, ?_, ?_, ?_, hN _ _ hn, hR _ _ hr⟩
    · rw [List.getElem?_append_right (by omega), hfl, Nat.sub_self]; rfl
    · rw [List.getElem?_append_right (by omega), hfl, show l.length * 4 + 1 - l.length * 4 = 1 by omega]; rfl
    · rw [List.getElem?_append_right (by omega), hfl, show l.length * 4 + 2 - l.length * 4 = 2 by omega]; rfl
    · rw [List.getElem?_append_right (by omega), hfl, show l.length * 4 + 3 - l.length * 4 = 3 by omega]; rfl
end Go.Proofs.Ytddcfnjmppijjaa
