import Derived.Test.YtddcfnjmppijjaaP5
import Derived.Sort.Walk0
import Derived.Test.YtddcfnjmppijjaaM9
import Derived.Test.YtddcfnjmppijjaaR3
import Derived.Test.YtddcfnjmppijjaaP4
/-! thunkref5.With. -/
namespace Go.Proofs.Ytddcfnjmppijjaa
open Go.RowKit

/-- append of texts: into the room that is there, or into a new block -/
theorem app_fine {B : Nat} {w : World} {v : Value} {l : List Str} (h : Rt B w v l) (hB : B ≤ w.heap.size) {D : Nat → Prop} {u : Value} {m : List Str} (k : Nm w D u m) (hm : l.length + m.length ≤ 1000000) (ty : TypeId) :
    ∃ v' w', (Builtin.append_ #[25, 25] ty #[v, u]).run Try.prog w = .ok v' w' ∧ Rt B w' v' (l ++ m) ∧
      (Grew w w' ∨ ∃ g cap cur, v = .slice (some ⟨g, 0, none⟩) l.length cap ∧ B ≤ g ∧ w.heap[g]? = some (.cells cur 9 (0, 0)) ∧ cur.size = cap ∧ l.length + m.length ≤ cap ∧ w' = w.setRow g ((cur.toList.take l.length ++ m.map St ++ cur.toList.drop (l.length + m.length)).toArray)) := by
  obtain ⟨v', w', hr, ho, hf, hg⟩ := app_rt h hB k hm ty
  refine ⟨v', w', hr, ho, ?_⟩
  obtain ⟨i, hi, hz, h1, h2⟩ := info_parts Try.i9
  obtain ⟨ad, cap, rfl, hc, hcm, hk⟩ := k
  rcases h.2 with ⟨rfl, h0⟩ | ⟨gv, cv, cuv, rfl, hgB, hgv, hvn, hvm, hvs, hvt⟩
  · exact .inl (hf.mono (fun _ _ e => by simp [Value.ownBlock] at e))
  · have hbs : (l.length + m.length) * 16 ≤ 140737488355328 := by omega
    cases ad with
    | none =>
      have hm0 : m = [] := by
        rcases hk with hk | ⟨g, o, e, -⟩
        · exact hk
        · cases e
      subst hm0
      have hr2 : (Builtin.append_ #[25, 25] ty #[.slice (some ⟨gv, 0, none⟩) l.length cv, .slice none ([] : List Str).length cap]).run Try.prog w = .ok (.slice (some ⟨gv, 0, none⟩) l.length cv) w := by
        simp [Builtin.append_, run_underlying Try.u25, sizeOf, typeInfo, hi, Builtin.lenOf, Builtin.firstCells, hvn, storeCells]
      rw [hr2] at hr
      cases hr
      exact .inl (Fr.refl _ _)
    | some a =>
      have hnews : ∀ j u, (m.map St)[j]? = some u → w.cell? (a.add j) = some u := by
        intro j u hj
        rcases hk with rfl | ⟨g, o, e, -, hcell⟩
        · simp at hj
        · cases e
          rw [List.getElem?_map] at hj
          obtain ⟨x, hx, rfl⟩ := Option.map_eq_some_iff.1 hj
          obtain ⟨hlt, rfl⟩ := List.getElem?_eq_some_iff.1 hx
          rw [addr_at]; exact hcell j hlt
      have ho1 : ∀ u ∈ m.map St, u.oneCell' = true := fun u hu => by obtain ⟨x, _, rfl⟩ := List.mem_map.1 hu; rfl
      by_cases hroom : l.length + m.length ≤ cv
      · have hr2 := run_append_room (P := Try.prog) w 25 ty 9 i Try.u25 hi gv l.length cv cuv hgv a m.length cap (m.map St) (by rw [h1]; simp) hnews ho1 hroom (by rw [h1]; simp; omega)
        rw [hr2] at hr
        cases hr
        exact .inr ⟨gv, cv, cuv, rfl, hgB, hgv, by omega, hroom, by rw [h1]; simp⟩
      · have holds : ∀ j y, (l.map St)[j]? = some y → w.cell? ((⟨gv, 0, none⟩ : Addr).add j) = some y := World.ownsRow.cells h (g := gv) rfl
        have hr2 := run_append_grow (P := Try.prog) w 25 ty 9 i (.string ⟨#[]⟩) Try.u25 hi hz ⟨gv, 0, none⟩ l.length cv (l.map St) (by rw [h1]; simp) holds a m.length cap (m.map St) (by rw [h1]; simp) hnews (by omega) (by omega) (by rw [h2]; exact growslice_fits (by omega) hbs)
        rw [hr2] at hr
        cases hr
        exact .inl ((Fr.refl _ _).drew.alloc _)

/-- texts of a text, in their order: of each row its first j cells stay, and s behind them -/
structure Se (B j : Nat) (s : Str) (a b : World) : Prop where
  fr : Fr (fun k => B ≤ k) a b
  row : ∀ (g : Nat) (c : Array Value), a.heap[g]? = some (.cells c 9 (0, 0)) → ∃ c' : Array Value, b.heap[g]? = some (.cells c' 9 (0, 0)) ∧ c'.size = c.size ∧ (∀ i, i < j → c'[i]? = c[i]?) ∧ (c[j]? = some (St s) → c'[j]? = some (St s))
theorem Se.refl (B j : Nat) (s : Str) (a : World) : Se B j s a a := ⟨Fr.refl _ _, fun _ c h => ⟨c, h, rfl, fun _ _ => rfl, id⟩⟩
theorem Se.drew (B j : Nat) (s : Str) (a : World) : Se B j s a a.drew := ⟨(Fr.refl _ _).drew, fun _ c h => ⟨c, h, rfl, fun _ _ => rfl, id⟩⟩
theorem Se.trans {B j : Nat} {s : Str} {a b c : World} (h : Se B j s a b) (k : Se B j s b c) : Se B j s a c :=
  ⟨h.fr.trans k.fr (fun _ _ e => e), fun g r hr => by
    obtain ⟨r1, h1, h2, h3, h4⟩ := h.row g r hr
    obtain ⟨r2, k1, k2, k3, k4⟩ := k.row g r1 h1
    exact ⟨r2, k1, k2.trans h2, fun i hi => (k3 i hi).trans (h3 i hi), fun e => k4 (h4 e)⟩⟩
theorem Se.grew {B j : Nat} {s : Str} {a b : World} (h : Grew a b) : Se B j s a b := ⟨Grew.any h, fun _ c hc => ⟨c, h.get hc (fun f => f), rfl, fun _ _ => rfl, id⟩⟩
theorem Se.alloc (B j : Nat) (s : Str) (a : World) (o : Obj) : Se B j s a (a.alloc o) := .grew ((Fr.refl _ _).alloc _)
theorem Se.setRow {B j : Nat} {s : Str} {a : World} {g : Nat} (hg : B ≤ g) {c c' : Array Value} (hc : a.heap[g]? = some (.cells c 9 (0, 0))) (h1 : c'.size = c.size) (h2 : ∀ i, i < j → c'[i]? = c[i]?) (h3 : c[j]? = some (St s) → c'[j]? = some (St s)) : Se B j s a (a.setRow g c') := by
  refine ⟨⟨rfl, rfl, rfl, by simp, fun k _ hk => setRow_other a g k _ (fun e => hk (by omega))⟩, fun g' r hr => ?_⟩
  by_cases e : g' = g
  · subst e
    rw [hc] at hr
    cases hr
    exact ⟨c', setRow_heap a g' c c' 9 _ hc, h1, h2, h3⟩
  · exact ⟨r, (setRow_other a g g' c' e).trans hr, rfl, fun _ _ => rfl, id⟩

/-- a row of one's own -/
def FR (B : Nat) (l : List Str) (v : Value) (w : World) : Prop := Rt B w v l
theorem se_rt {B j : Nat} {s : Str} {l : List Str} {a b : World} (h : Se B j s a b) {v : Value} (k : Rt B a v l) (hc : ∀ c : Array Value, ∀ c' : Array Value, (∀ i, i < j → c'[i]? = c[i]?) → (c[j]? = some (St s) → c'[j]? = some (St s)) → c'.size = c.size → c.toList.take l.length = l.map St → c'.toList.take l.length = l.map St) : Rt B b v l := by
  refine ⟨k.1, ?_⟩
  rcases k.2 with q | ⟨g, cap, cur, hv, hB, hg, h1, h2, h3, h4⟩
  · exact .inl q
  · obtain ⟨c', k1, k2, k3, k4⟩ := h.row g cur hg
    refine .inr ⟨g, cap, c', hv, hB, k1, h1, h2, by omega, ?_⟩
    have := hc cur c' k3 k4 k2 (by simpa using h4)
    simpa using this
theorem FR.stays0 {B j : Nat} {s : Str} {l : List Str} (hj : j ≤ l.length) (v : Value) (w w' : World) (h : Se B j s w w') (k : FR B (l.take j) v w) : FR B (l.take j) v w' := by
  refine se_rt h k fun c c' h1 _ _ h4 => ?_
  rw [← h4]
  apply List.ext_getElem?
  intro i
  have hl : (l.take j).length = j := by simp; omega
  rw [hl, List.getElem?_take, List.getElem?_take]
  split
  · rename_i hi
    simpa using h1 i hi
  · rfl
theorem FR.stays1 {B j : Nat} {s : Str} {l : List Str} (hj : j ≤ l.length) (v : Value) (w w' : World) (h : Se B j s w w') (k : FR B (l.take j ++ [s]) v w) : FR B (l.take j ++ [s]) v w' := by
  refine se_rt h k fun c c' h1 h2 _ h4 => ?_
  have hl : (l.take j ++ [s]).length = j + 1 := by simp; omega
  rw [hl] at h4 ⊢
  rw [← h4]
  have hs : c[j]? = some (St s) := by
    have := congrArg (fun m => m[j]?) h4
    simp only [List.getElem?_take] at this
    rw [if_pos (Nat.lt_succ_self j)] at this
    rw [← Array.getElem?_toList, this, List.getElem?_map, List.getElem?_append_right (by rw [List.length_take]; omega), List.length_take, Nat.min_eq_left hj, Nat.sub_self]
    rfl
  apply List.ext_getElem?
  intro i
  rw [List.getElem?_take, List.getElem?_take]
  split
  · rename_i hi
    by_cases e : i = j
    · subst e
      rw [Array.getElem?_toList, Array.getElem?_toList, h2 hs, hs]
    · rw [Array.getElem?_toList, Array.getElem?_toList, h1 i (by omega)]
  · rfl
/-- an empty row with no room -/
def F24 (B : Nat) (v : Value) (w : World) : Prop := ∃ g, v = .slice (some ⟨g, 0, none⟩) 0 0 ∧ Rt B w v []
theorem F24.stays {j : Nat} {s : Str} (B : Nat) (v : Value) (w w' : World) (h : Se B j s w w') (k : F24 B v w) : F24 B v w' := by
  obtain ⟨g, e, k⟩ := k
  exact ⟨g, e, se_rt h k fun c c' _ _ _ _ => by simp⟩
/-- texts that lie below B -/
def FN (B : Nat) (l : List Str) (v : Value) (w : World) : Prop := Nm w (fun k => B ≤ k) v l
theorem FN.stays {B j : Nat} {s : Str} (l : List Str) (v : Value) (w w' : World) (h : Se B j s w w') (k : FN B l v w) : FN B l v w' := Nm.kept k h.fr (fun _ e => e)
/-- a row of s alone -/
def F30 (s : Str) (v : Value) (w : World) : Prop := ∃ g, v = .slice (some ⟨g, 0, none⟩) 1 1 ∧ w.heap[g]? = some (.cells #[St s] 9 (0, 0))
theorem F30.stays {B j : Nat} {s : Str} (v : Value) (w w' : World) (h : Se B j s w w') (k : F30 s v w) : F30 s v w' := by
  obtain ⟨g, e, k⟩ := k
  obtain ⟨c', k1, k2, k3, k4⟩ := h.row g _ k
  refine ⟨g, e, ?_⟩
  have h0 : c'[0]? = some (St s) := by
    rcases Nat.eq_zero_or_pos j with rfl | hj
    · exact k4 rfl
    · exact (k3 0 hj).trans rfl
  have : c' = #[St s] := by
    apply Array.ext (by simpa using k2)
    intro i h1 h2
    obtain rfl : i = 0 := by simp at h2; omega
    rw [Array.getElem?_eq_getElem h1] at h0
    simpa using h0
  rw [k1, this]
theorem f24_new {B : Nat} {w : World} (hB : B ≤ w.heap.size) : F24 B (.slice (some ⟨w.heap.size, 0, none⟩) 0 0) (w.alloc (.cells #[] 9)) :=
  ⟨_, rfl, World.ownsRow_made w #[] 0 hB (by simp [maxLen]) (by simp)⟩
theorem f30_new {s : Str} {w : World} : F30 s (.slice (some ⟨w.heap.size, 0, none⟩) 1 1) (w.alloc (.cells #[St s] 9)) := ⟨_, rfl, heap_alloc_new w _⟩
theorem FN.ofTake {B j : Nat} {s : Str} {wr w : World} {a0 : Option Addr} {c0 : Nat} {l : List Str} (h : Se B j s wr w) (k : Nm wr (fun k => B ≤ k) (.slice a0 l.length c0) l) (hj : j ≤ l.length) : FN B (l.take j) (.slice a0 j c0) w :=
  (k.take j hj).kept h.fr (fun _ e => e)
theorem Nm.drop {w : World} {D : Nat → Prop} {ad : Option Addr} {n cap : Nat} {l : List Str} (h : Nm w D (.slice ad n cap) l) (i : Nat) (hi : i < l.length) : ∃ g o, ad = some ⟨g, o, none⟩ ∧ Nm w D (.slice (some ⟨g, o + i, none⟩) (n - i) (cap - i)) (l.drop i) := by
  obtain ⟨ad', cap', e, h1, h2, h3⟩ := h
  simp only [Value.slice.injEq] at e
  obtain ⟨rfl, rfl, rfl⟩ := e
  rcases h3 with rfl | ⟨g, o, rfl, hD, hc⟩
  · simp at hi
  · refine ⟨g, o, rfl, _, _, by rw [List.length_drop], by rw [List.length_drop]; omega, by omega, .inr ⟨g, o + i, rfl, hD, fun j hj => ?_⟩⟩
    rw [List.length_drop] at hj
    rw [List.getElem_drop, Nat.add_assoc]
    exact hc (i + j) (by omega)

theorem FN.ofDrop {B j : Nat} {s : Str} {wr w : World} {g o c0 : Nat} {l : List Str} (h : Se B j s wr w) (k : Nm wr (fun k => B ≤ k) (.slice (some ⟨g, o, none⟩) l.length c0) l) (hj : j ≤ l.length) :
    FN B (l.drop j) (.slice (if c0 = j then some ⟨g, o, none⟩ else some ⟨g, o + j, none⟩) (l.length - j) (c0 - j)) w := by
  obtain ⟨_, c1, e, h1, h2⟩ := k.shape
  simp only [Value.slice.injEq] at e
  obtain ⟨-, -, rfl⟩ := e
  rcases Nat.lt_or_ge j l.length with hlt | hge
  · obtain ⟨g', o', e, hn⟩ := Nm.drop k j hlt
    cases e
    rw [if_neg (by omega)]
    exact hn.kept h.fr (fun _ e => e)
  · have hd : l.drop j = [] := List.drop_eq_nil_of_le hge
    rw [hd, show l.length - j = ([] : List Str).length from by simp; omega]
    exact ⟨_, _, rfl, Nat.zero_le _, by omega, .inl rfl⟩
theorem FN.none {B : Nat} {w : World} (a : Option Addr) (c : Nat) (hc : c ≤ maxLen) : FN B [] (.slice a 0 c) w := ⟨_, _, rfl, Nat.zero_le _, hc, .inl rfl⟩

theorem app_28 {B j : Nat} {s : Str} {w : World} {l : List Str} {v u : Value} (hB : B ≤ w.heap.size) (h : F24 B v w) (k : FN B (l.take j) u w) (hm : (l.take j).length ≤ 900000) (_hj : j ≤ l.length) (ty : TypeId) :
    ∃ v' w', (Builtin.append_ #[25, 25] ty #[v, u]).run Try.prog w = .ok v' w' ∧ FR B (l.take j) v' w' ∧ Se B j s w w' := by
  obtain ⟨g, rfl, h⟩ := h
  obtain ⟨v', w', hr, ho, hx⟩ := app_fine h (by omega) k (by simp only [List.length_nil]; omega) ty
  rw [List.nil_append] at ho
  refine ⟨v', w', hr, ho, ?_⟩
  rcases hx with hx | ⟨g', cap, cur, e, hg, hc, h1, h2, rfl⟩
  · exact .grew hx
  · simp only [Value.slice.injEq, Option.some.injEq, Addr.mk.injEq] at e
    obtain ⟨⟨rfl, -, -⟩, -, rfl⟩ := e
    have hl : (l.take j).length = 0 := by simp at h2 ⊢; omega
    have hcs : cur = #[] := Array.eq_empty_of_size_eq_zero h1
    subst hcs
    have hml : (l.take j) = [] := List.eq_nil_of_length_eq_zero hl
    rw [hml]
    exact Se.setRow hg hc rfl (fun _ _ => rfl) id
theorem app_31 {B j : Nat} {s : Str} {w : World} {l : List Str} {v u : Value} (hB : B ≤ w.heap.size) (h : FR B (l.take j) v w) (k : F30 s u w) (hm : (l.take j).length + 1 ≤ 900000) (hj : j ≤ l.length) (ty : TypeId) :
    ∃ v' w', (Builtin.append_ #[25, 25] ty #[v, u]).run Try.prog w = .ok v' w' ∧ FR B (l.take j ++ [s]) v' w' ∧ Se B j s w w' := by
  obtain ⟨g, rfl, k⟩ := k
  obtain ⟨v', w', hr, ho, hx⟩ := app_fine h (by omega) (D := fun _ => False) (m := [s]) ⟨_, 1, rfl, Nat.le_refl _, by simp [maxLen], .inr ⟨g, 0, rfl, fun f => f, fun i hi => by
    obtain rfl : i = 0 := by simp at hi; omega
    rw [Nat.zero_add, cell_of_get k]; rfl⟩⟩ (by simp at hm ⊢; omega) ty
  refine ⟨v', w', hr, ho, ?_⟩
  rcases hx with hx | ⟨g', cap, cur, e, hg, hc, h1, h2, rfl⟩
  · exact .grew hx
  · have hl : (l.take j).length = j := by simp; omega
    rw [hl] at h2 ⊢
    simp only [List.length_cons, List.length_nil] at h2 ⊢
    refine Se.setRow hg hc ?_ (fun i hi => ?_) (fun _ => ?_)
    · simp; omega
    · rw [← Array.getElem?_toList, ← Array.getElem?_toList]
      simp only [List.map_cons, List.map_nil, List.append_assoc]
      rw [List.getElem?_append_left (by simp; omega), List.getElem?_take, if_pos hi]
    · rw [← Array.getElem?_toList]
      simp only [List.map_cons, List.map_nil, List.append_assoc]
      rw [List.getElem?_append_right (by simp; omega)]
      have : (cur.toList.take j).length = j := by simp; omega
      rw [this, Nat.sub_self]
      rfl

theorem str_lt_of {x y : Str} (h : ¬ x < y) (hn : x ≠ y) : y < x := Classical.byContradiction fun q => hn (str_antisymm (List.not_lt.1 q) (List.not_lt.1 h))
theorem ins_mem {l : List Str} {j : Nat} {s y : Str} : y ∈ l.take j ++ [s] ++ l.drop j ↔ y ∈ l ∨ y = s := by
  have h := List.mem_append (a := y) (s := l.take j) (t := l.drop j)
  rw [List.take_append_drop] at h
  simp only [List.mem_append, List.mem_cons, List.not_mem_nil, or_false]
  rw [h]
  constructor
  · rintro ((h | h) | h)
    · exact .inl (.inl h)
    · exact .inr h
    · exact .inl (.inr h)
  · rintro ((h | h) | h)
    · exact .inl (.inl h)
    · exact .inr h
    · exact .inl (.inr h)
theorem ins_ok {l : List Str} {j : Nat} {s : Str} (hs : l.Pairwise (fun x y => x ≤ y)) (hd : l.Nodup) (hm : s ∉ l) (h1 : ∀ y ∈ l.take j, y < s) (h2 : ∀ y ∈ l.drop j, s < y) : (l.take j ++ [s] ++ l.drop j).Pairwise (fun x y => x ≤ y) ∧ (l.take j ++ [s] ++ l.drop j).Nodup := by
  have hp := hs
  rw [← List.take_append_drop j l, List.pairwise_append] at hp
  have hn := hd
  rw [← List.take_append_drop j l, List.nodup_append] at hn
  constructor
  · rw [List.append_assoc, List.pairwise_append]
    refine ⟨hp.1, ?_, fun a ha b hb => ?_⟩
    · rw [List.singleton_append, List.pairwise_cons]
      exact ⟨fun y hy => List.le_of_lt (h2 y hy), hp.2.1⟩
    · rw [List.singleton_append, List.mem_cons] at hb
      rcases hb with rfl | hb
      · exact List.le_of_lt (h1 a ha)
      · exact hp.2.2 a ha b hb
  · rw [List.append_assoc, List.nodup_append]
    refine ⟨hn.1, ?_, fun a ha b hb => ?_⟩
    · rw [List.singleton_append, List.nodup_cons]
      exact ⟨fun q => hm (List.mem_of_mem_drop q), hn.2.1⟩
    · rw [List.singleton_append, List.mem_cons] at hb
      rcases hb with rfl | hb
      · exact fun e => hm (e ▸ List.mem_of_mem_take ha)
      · exact hn.2.2 a ha b hb
theorem drop_ge {l : List Str} {j : Nat} {s x : Str} (hs : l.Pairwise (fun x y => x ≤ y)) (hx : l[j]? = some x) (h : s < x) : ∀ y ∈ l.drop j, s < y := by
  intro y hy
  obtain ⟨hj, rfl⟩ := List.getElem?_eq_some_iff.1 hx
  have hp := hs.sublist (List.drop_sublist j l)
  rw [List.drop_eq_getElem_cons hj] at hp hy
  rcases List.mem_cons.1 hy with rfl | hy
  · exact h
  · have hxy := (List.pairwise_cons.1 hp).1 y hy
    exact str_lt_of (fun q => List.not_lt.2 hxy (List.lt_trans q h)) (fun e => List.not_lt.2 hxy (e ▸ h))
set_option maxHeartbeats 8000000 in
set_option maxRecDepth 100000 in
/-- With, where nothing is there yet -/
theorem with_none {w : World} {v : Value} {l : List Str} (h0 : l = []) (h : Nm w (fun _ => False) v l) (s : Str) (w' : World) (hw : Grew w w') :
    Calls Try.prog 66 #[v, St s] w' fun e w'' => ∃ v' m, e = .returned v' ∧ Nm w'' (fun _ => False) v' m ∧ m.Pairwise (fun x y => x ≤ y) ∧ m.Nodup ∧ (∀ y, y ∈ m ↔ y ∈ l ∨ y = s) ∧ m.length ≤ l.length + 1 ∧ Grew w' w'' := by
  subst h0
  have hin := in_any (h.grew hw) s
  obtain ⟨a0, c0, rfl, h1, h2⟩ := h.shape
  replace h2 : c0 ≤ 9223372036854775807 := h2
  rw [decide_eq_false (by simp)] at hin
  simp only [List.length_nil] at hin
  clear h hw
  go_enter Try.func66, Try.ntmps66
  go_wp2_with (go_at_call 25; (with_reducible refine hin.mono ?_); rintro e w2 ⟨rfl, rfl⟩; clear hin)
  go_loopw [5] (fun a wr => a = .int .i64 0 ∧ Grew w' wr) (fun _ _ => 0)
  case atStart => exact ⟨rfl, Fr.refl _ _⟩
  case round =>
    obtain ⟨rfl, hgr⟩ := hrel
    have HGR := hid hgr
    clear hgr
    go_wp2
    refine Rg.wp_region_facts 11 (Se wr.heap.size 0 s) [(24, F24 wr.heap.size), (25, Rg.Ex (.slice (a0) 0 c0)), (26, Rg.Ex (.int .i64 (0 : Int))), (27, FN wr.heap.size []), (28, FR wr.heap.size []), (29, Rg.Ex (St s)), (30, F30 s), (31, FR wr.heap.size [s]), (32, Rg.Ex (.slice (a0) 0 c0)), (33, Rg.Ex (.int .i64 (0 : Int))), (34, FN wr.heap.size [])] (by kernel_rfl) (by kernel_rfl) (by rfl) (by rfl)
      (fun a => Se.refl _ _ _ a) (fun a b c h k => h.trans k) (Se.drew _ _ _ _)
      (Rg.Stays.all ⟨F24.stays _, Rg.Ex.stays _, Rg.Ex.stays _, FN.stays _, FR.stays0 (j := 0) (l := []) (Nat.le_refl 0), Rg.Ex.stays _, F30.stays, FR.stays1 (j := 0) (l := []) (Nat.le_refl 0), Rg.Ex.stays _, Rg.Ex.stays _, FN.stays _, trivial⟩) ?_ ?_
    · go_light
      refine Rg.OpGoals.cons (Rg.OpGoal.plain rfl ?_) (Rg.OpGoals.cons (Rg.OpGoal.plain rfl ?_) (Rg.OpGoals.cons (Rg.OpGoal.plain rfl ?_) (Rg.OpGoals.cons (Rg.OpGoal.plain rfl ?_) (Rg.OpGoals.cons (Rg.OpGoal.plain rfl ?_) (Rg.OpGoals.cons (Rg.OpGoal.plain rfl ?_) (Rg.OpGoals.cons (Rg.OpGoal.plain rfl ?_) (Rg.OpGoals.cons (Rg.OpGoal.plain rfl ?_) (Rg.OpGoals.cons (Rg.OpGoal.plain rfl ?_) (Rg.OpGoals.cons (Rg.OpGoal.plain rfl ?_) (Rg.OpGoals.cons (Rg.OpGoal.plain rfl ?_) Rg.OpGoals.none))))))))))
      all_goals (intro a' w' hS hR; simp [Rg.Rd, Op.operands, Call.operands, Rg.Fk, Rg.Ex] at hR)
      all_goals try (simp [Rg.Yields, execOp, Act.eval, hR, Se.refl, go_sem, Rg.Fk, Rg.Ex]; done)
      · simp [Rg.Yields, execOp, Act.eval, go_sem, Rg.Fk, Rg.Ex]
        exact ⟨f24_new hS.fr.size, Se.alloc _ _ _ _ _⟩
      · simp [Rg.Yields, execOp, Act.eval, hR, go_sem, Rg.Fk, Rg.Ex]
        exact ⟨FN.none _ _ h2, Se.refl _ _ _ _⟩
      · obtain ⟨h24, h27⟩ := hR
        obtain ⟨v1, w2, hrun, k1, k2⟩ := app_28 (j := 0) (l := []) hS.fr.size h24 h27 (by simp) (Nat.le_refl 0) 25
        refine Yields_app rfl (Array.getD_eq_getD_getElem? ..) (Array.getD_eq_getD_getElem? ..) hrun ⟨fun d hd => by cases hd; exact k1, k2⟩
      · simp [Rg.Yields, execOp, Act.eval, hR, go_sem, Rg.Fk, Rg.Ex]
        exact ⟨f30_new, Se.alloc _ _ _ _ _⟩
      · obtain ⟨h28, h30⟩ := hR
        obtain ⟨v1, w2, hrun, k1, k2⟩ := app_31 (j := 0) (l := []) hS.fr.size h28 h30 (by simp) (Nat.le_refl 0) 25
        refine Yields_app rfl (Array.getD_eq_getD_getElem? ..) (Array.getD_eq_getD_getElem? ..) hrun ⟨fun d hd => by cases hd; exact k1, k2⟩
      · simp [Rg.Yields, execOp, Act.eval, hR, go_sem, Rg.Fk, Rg.Ex]
        exact ⟨FN.none _ _ (by unfold maxLen; omega), Se.refl _ _ _ _⟩
    · intro w5 hS
      rintro v24 h24 _ rfl _ rfl v27 h27 v28 h28 _ rfl v30 h30 v31 h31 _ rfl _ rfl v34 h34
      refine Rg.Then.nil ?_
      have hrt : Rt wr.heap.size w5 v31 [s] := h31
      have hnm : Nm w5 (fun k => wr.heap.size ≤ k) v34 [] := h34
      clear h31 h34
      obtain ⟨a31, c31, rfl, -⟩ := (nm_of_rt hrt).shape
      obtain ⟨a34, c34, rfl, -⟩ := hnm.shape
      have HSW := hid hS
      obtain ⟨v', w6, hrun, ho, hx⟩ := app_fine hrt hS.fr.size hnm (by simp) 25
      simp only [List.length_cons, List.length_nil, Nat.zero_add] at hrun
      have HRUN := hid hrun
      have HO := hid ho
      have HG6 := hid (show Grew wr w6 from by
        have h1 : Fr (fun k => wr.heap.size ≤ k) wr w6 := by
          rcases hx with hx | ⟨g', cap, cur, -, hg', -, -, -, rfl⟩
          · exact hS.fr.trans (Grew.any hx) (fun _ _ e => e)
          · exact hS.fr.trans (G := fun k => wr.heap.size ≤ k) ⟨rfl, rfl, rfl, by simp, fun k _ hk => setRow_other _ _ k _ (fun e => hk (by omega))⟩ (fun _ _ e => e)
        exact h1.mono (fun k hk e => by omega))
      clear hrt hnm hS hrun ho hx h24 h27 h28 h30
      simp only [List.drop_succ_cons, List.drop_zero]
      refine wpList_app rfl rfl ?hs ?hx HRUN.out ?_
      case hs => simp [Act.eval, Act.put]
      case hx => simp [Act.eval, Act.put]
      clear HRUN
      go_wp2
      go_ret
      exact ⟨_, [s], rfl, (nm_of_rt HO.out).mono (fun _ _ f => f.elim), by simp, by simp, fun y => by simp, by simp, HGR.out.trans HG6.out (fun _ _ f => f)⟩

set_option maxHeartbeats 8000000 in
set_option maxRecDepth 100000 in
/-- With -/
theorem with_any {w : World} {v : Value} {l : List Str} (h : Nm w (fun _ => False) v l) (s : Str) (hs : l.Pairwise (fun x y => x ≤ y)) (hnd : l.Nodup) (hl : l.length ≤ 400000) (w' : World) (hw : Grew w w') :
    Calls Try.prog 66 #[v, St s] w' fun e w'' => ∃ v' m, e = .returned v' ∧ Nm w'' (fun _ => False) v' m ∧ m.Pairwise (fun x y => x ≤ y) ∧ m.Nodup ∧ (∀ y, y ∈ m ↔ y ∈ l ∨ y = s) ∧ m.length ≤ l.length + 1 ∧ Grew w' w'' := by
  have hin := in_any (h.grew hw) s
  by_cases h0 : l = []
  · exact with_none h0 h s w' hw
  obtain ⟨g, o, c0, rfl, h1, h2, -, -⟩ := h.row h0
  replace h2 : c0 ≤ 9223372036854775807 := h2
  have HN := hid (h.grew hw)
  have HROW := hid ((h.grew hw).row h0)
  have HS := hid hs
  have HD := hid hnd
  clear h hw hs hnd
  by_cases hmem : s ∈ l
  · rw [decide_eq_true hmem] at hin
    have HM := hid hmem
    clear hmem
    go_enter Try.func66, Try.ntmps66
    go_wp2_with (go_at_call 25; (with_reducible refine hin.mono ?_); rintro e w2 ⟨rfl, rfl⟩; clear hin)
    go_ret
    exact ⟨_, l, rfl, HN.out, HS.out, HD.out, fun y => ⟨.inl, fun q => q.elim id (fun e => e ▸ HM.out)⟩, by omega, Fr.refl _ _⟩
  rw [decide_eq_false hmem] at hin
  have HM := hid hmem
  clear hmem
  go_enter Try.func66, Try.ntmps66
  go_wp2_with (go_at_call 25; (with_reducible refine hin.mono ?_); rintro e w2 ⟨rfl, rfl⟩; clear hin)
  go_loopw [5] (fun a wr => ∃ j : Nat, j ≤ l.length ∧ a = .int .i64 j ∧ (∀ y ∈ l.take j, y < s) ∧ Grew w' wr) (fun i _ => l.length - (intOf i).toNat)
  case atStart => exact ⟨0, Nat.zero_le _, rfl, by simp, Fr.refl _ _⟩
  case round =>
    obtain ⟨j, hjn, rfl, hlt0, hgr⟩ := hrel
    have HLT := hid hlt0
    have HGR := hid hgr
    have HNL := hid ((HN.out.grew hgr).mono (E := fun k => wr.heap.size ≤ k) (fun b hb e => by omega))
    clear hlt0
    by_cases hj : j < l.length
    · obtain ⟨x, hx⟩ := at_of_lt hj
      obtain ⟨g', o', c, e, -, -, -, hel⟩ := HROW.out
      simp only [Value.slice.injEq, Option.some.injEq, Addr.mk.injEq] at e
      obtain ⟨⟨rfl, rfl, -⟩, -, rfl⟩ := e
      have cx := hgr.cell (hel j x hx) (fun f => f)
      by_cases hxs : x < s
      · have hb : Op.bytesLess x s = true := by rw [bytesLess_eq]; exact decide_eq_true hxs
        have HNX := hid (show ∀ y ∈ l.take (j + 1), y < s from fun y hy => by
          rw [List.take_add_one, hx] at hy
          rcases List.mem_append.1 hy with q | q
          · exact HLT.out y q
          · simp at q; rw [q]; exact hxs)
        clear hx hel hgr hxs
        go_wp2
        go_roundw
        case rel => exact ⟨j + 1, by omega, by go_num, HNX.out, HGR.out⟩
        case measure => simp [intOf]; omega
      · have hb : Op.bytesLess x s = false := by rw [bytesLess_eq]; exact decide_eq_false hxs
        have HXS := hid hxs
        have HX := hid hx
        clear hx hel hgr hxs
        go_wp2
        have hjl : (j : Int) ≤ (l.length : Int) := by omega
        have hjl2 : (j : Int) ≤ (c0 : Int) := by omega
        refine Rg.wp_region_facts 11 (Se wr.heap.size j s) [(24, F24 wr.heap.size), (25, Rg.Ex (.slice (some ⟨g, o, none⟩) l.length c0)), (26, Rg.Ex (.int .i64 (j : Int))), (27, FN wr.heap.size (l.take j)), (28, FR wr.heap.size (l.take j)), (29, Rg.Ex (St s)), (30, F30 s), (31, FR wr.heap.size (l.take j ++ [s])), (32, Rg.Ex (.slice (some ⟨g, o, none⟩) l.length c0)), (33, Rg.Ex (.int .i64 (j : Int))), (34, FN wr.heap.size (l.drop j))] (by kernel_rfl) (by kernel_rfl) (by rfl) (by rfl)
          (fun a => Se.refl _ _ _ a) (fun a b c h k => h.trans k) (Se.drew _ _ _ _)
          (Rg.Stays.all ⟨F24.stays _, Rg.Ex.stays _, Rg.Ex.stays _, FN.stays _, FR.stays0 hjn, Rg.Ex.stays _, F30.stays, FR.stays1 hjn, Rg.Ex.stays _, Rg.Ex.stays _, FN.stays _, trivial⟩) ?_ ?_
        · go_light
          refine Rg.OpGoals.cons (Rg.OpGoal.plain rfl ?_) (Rg.OpGoals.cons (Rg.OpGoal.plain rfl ?_) (Rg.OpGoals.cons (Rg.OpGoal.plain rfl ?_) (Rg.OpGoals.cons (Rg.OpGoal.plain rfl ?_) (Rg.OpGoals.cons (Rg.OpGoal.plain rfl ?_) (Rg.OpGoals.cons (Rg.OpGoal.plain rfl ?_) (Rg.OpGoals.cons (Rg.OpGoal.plain rfl ?_) (Rg.OpGoals.cons (Rg.OpGoal.plain rfl ?_) (Rg.OpGoals.cons (Rg.OpGoal.plain rfl ?_) (Rg.OpGoals.cons (Rg.OpGoal.plain rfl ?_) (Rg.OpGoals.cons (Rg.OpGoal.plain rfl ?_) Rg.OpGoals.none))))))))))
          all_goals (intro a' w' hS hR; simp [Rg.Rd, Op.operands, Call.operands, Rg.Fk, Rg.Ex] at hR)
          all_goals try (simp [Rg.Yields, execOp, Act.eval, hR, Se.refl, go_sem, Rg.Fk, Rg.Ex]; done)
          · simp [Rg.Yields, execOp, Act.eval, go_sem, Rg.Fk, Rg.Ex]
            exact ⟨f24_new hS.fr.size, Se.alloc _ _ _ _ _⟩
          · simp [Rg.Yields, execOp, Act.eval, hR, go_sem, Rg.Fk, Rg.Ex, hjl2]
            exact ⟨FN.ofTake hS HNL.out hjn, Se.refl _ _ _ _⟩
          · obtain ⟨h24, h27⟩ := hR
            obtain ⟨v1, w2, hrun, k1, k2⟩ := app_28 hS.fr.size h24 h27 (by simp; omega) hjn 25
            refine Yields_app rfl (Array.getD_eq_getD_getElem? ..) (Array.getD_eq_getD_getElem? ..) hrun ⟨fun d hd => by cases hd; exact k1, k2⟩
          · simp [Rg.Yields, execOp, Act.eval, hR, go_sem, Rg.Fk, Rg.Ex]
            exact ⟨f30_new, Se.alloc _ _ _ _ _⟩
          · obtain ⟨h28, h30⟩ := hR
            obtain ⟨v1, w2, hrun, k1, k2⟩ := app_31 hS.fr.size h28 h30 (by simp; omega) hjn 25
            refine Yields_app rfl (Array.getD_eq_getD_getElem? ..) (Array.getD_eq_getD_getElem? ..) hrun ⟨fun d hd => by cases hd; exact k1, k2⟩
          · simp [Rg.Yields, execOp, Act.eval, hR, go_sem, Rg.Fk, Rg.Ex, hjl]
            exact ⟨FN.ofDrop hS HNL.out hjn, Se.refl _ _ _ _⟩
        · intro w5 hS
          rintro v24 h24 _ rfl _ rfl v27 h27 v28 h28 _ rfl v30 h30 v31 h31 _ rfl _ rfl v34 h34
          refine Rg.Then.nil ?_
          have hrt : Rt wr.heap.size w5 v31 (l.take j ++ [s]) := h31
          have hnm : Nm w5 (fun k => wr.heap.size ≤ k) v34 (l.drop j) := h34
          clear h31 h34
          obtain ⟨a31, c31, rfl, -⟩ := (nm_of_rt hrt).shape
          obtain ⟨a34, c34, rfl, -⟩ := hnm.shape
          have HSW := hid hS
          obtain ⟨v', w6, hrun, ho, hx⟩ := app_fine hrt hS.fr.size hnm (by simp; omega) 25
          have HRUN := hid hrun
          have HO := hid ho
          have HG6 := hid (show Grew wr w6 from by
            have h1 : Fr (fun k => wr.heap.size ≤ k) wr w6 := by
              rcases hx with hx | ⟨g', cap, cur, -, hg', -, -, -, rfl⟩
              · exact hS.fr.trans (Grew.any hx) (fun _ _ e => e)
              · exact hS.fr.trans (G := fun k => wr.heap.size ≤ k) ⟨rfl, rfl, rfl, by simp, fun k _ hk => setRow_other _ _ k _ (fun e => hk (by omega))⟩ (fun _ _ e => e)
            exact h1.mono (fun k hk e => by omega))
          clear hrt hnm hS hrun ho hx h24 h27 h28 h30
          simp only [List.drop_succ_cons, List.drop_zero]
          refine wpList_app rfl rfl ?hs ?hx HRUN.out ?_
          case hs => simp [Act.eval, Act.put]
          case hx => simp [Act.eval, Act.put]
          clear HRUN
          go_wp2
          go_ret
          refine ⟨_, l.take j ++ [s] ++ l.drop j, rfl, (nm_of_rt HO.out).mono (fun _ _ f => f.elim), ?_, ?_, ?_, by simp; omega, HGR.out.trans HG6.out (fun _ _ f => f)⟩
          · exact (ins_ok HS.out HD.out HM.out HLT.out (fun y hy => drop_ge HS.out HX.out (str_lt_of HXS.out (fun e => HM.out (e ▸ List.mem_of_getElem? HX.out))) y hy)).1
          · exact (ins_ok HS.out HD.out HM.out HLT.out (fun y hy => drop_ge HS.out HX.out (str_lt_of HXS.out (fun e => HM.out (e ▸ List.mem_of_getElem? HX.out))) y hy)).2
          · exact fun y => ins_mem
    · have HJ := hid (show j = l.length by omega)
      have hj' : ¬ (j : Int) < (l.length : Int) := by omega
      clear hgr
      go_wp2
      have hjl : (j : Int) ≤ (l.length : Int) := by omega
      have hjl2 : (j : Int) ≤ (c0 : Int) := by omega
      refine Rg.wp_region_facts 11 (Se wr.heap.size j s) [(24, F24 wr.heap.size), (25, Rg.Ex (.slice (some ⟨g, o, none⟩) l.length c0)), (26, Rg.Ex (.int .i64 (j : Int))), (27, FN wr.heap.size (l.take j)), (28, FR wr.heap.size (l.take j)), (29, Rg.Ex (St s)), (30, F30 s), (31, FR wr.heap.size (l.take j ++ [s])), (32, Rg.Ex (.slice (some ⟨g, o, none⟩) l.length c0)), (33, Rg.Ex (.int .i64 (j : Int))), (34, FN wr.heap.size (l.drop j))] (by kernel_rfl) (by kernel_rfl) (by rfl) (by rfl)
        (fun a => Se.refl _ _ _ a) (fun a b c h k => h.trans k) (Se.drew _ _ _ _)
        (Rg.Stays.all ⟨F24.stays _, Rg.Ex.stays _, Rg.Ex.stays _, FN.stays _, FR.stays0 hjn, Rg.Ex.stays _, F30.stays, FR.stays1 hjn, Rg.Ex.stays _, Rg.Ex.stays _, FN.stays _, trivial⟩) ?_ ?_
      · go_light
        refine Rg.OpGoals.cons (Rg.OpGoal.plain rfl ?_) (Rg.OpGoals.cons (Rg.OpGoal.plain rfl ?_) (Rg.OpGoals.cons (Rg.OpGoal.plain rfl ?_) (Rg.OpGoals.cons (Rg.OpGoal.plain rfl ?_) (Rg.OpGoals.cons (Rg.OpGoal.plain rfl ?_) (Rg.OpGoals.cons (Rg.OpGoal.plain rfl ?_) (Rg.OpGoals.cons (Rg.OpGoal.plain rfl ?_) (Rg.OpGoals.cons (Rg.OpGoal.plain rfl ?_) (Rg.OpGoals.cons (Rg.OpGoal.plain rfl ?_) (Rg.OpGoals.cons (Rg.OpGoal.plain rfl ?_) (Rg.OpGoals.cons (Rg.OpGoal.plain rfl ?_) Rg.OpGoals.none))))))))))
        all_goals (intro a' w' hS hR; simp [Rg.Rd, Op.operands, Call.operands, Rg.Fk, Rg.Ex] at hR)
        all_goals try (simp [Rg.Yields, execOp, Act.eval, hR, Se.refl, go_sem, Rg.Fk, Rg.Ex]; done)
        · simp [Rg.Yields, execOp, Act.eval, go_sem, Rg.Fk, Rg.Ex]
          exact ⟨f24_new hS.fr.size, Se.alloc _ _ _ _ _⟩
        · simp [Rg.Yields, execOp, Act.eval, hR, go_sem, Rg.Fk, Rg.Ex, hjl2]
          exact ⟨FN.ofTake hS HNL.out hjn, Se.refl _ _ _ _⟩
        · obtain ⟨h24, h27⟩ := hR
          obtain ⟨v1, w2, hrun, k1, k2⟩ := app_28 hS.fr.size h24 h27 (by simp; omega) hjn 25
          refine Yields_app rfl (Array.getD_eq_getD_getElem? ..) (Array.getD_eq_getD_getElem? ..) hrun ⟨fun d hd => by cases hd; exact k1, k2⟩
        · simp [Rg.Yields, execOp, Act.eval, hR, go_sem, Rg.Fk, Rg.Ex]
          exact ⟨f30_new, Se.alloc _ _ _ _ _⟩
        · obtain ⟨h28, h30⟩ := hR
          obtain ⟨v1, w2, hrun, k1, k2⟩ := app_31 hS.fr.size h28 h30 (by simp; omega) hjn 25
          refine Yields_app rfl (Array.getD_eq_getD_getElem? ..) (Array.getD_eq_getD_getElem? ..) hrun ⟨fun d hd => by cases hd; exact k1, k2⟩
        · simp [Rg.Yields, execOp, Act.eval, hR, go_sem, Rg.Fk, Rg.Ex, hjl]
          exact ⟨FN.ofDrop hS HNL.out hjn, Se.refl _ _ _ _⟩
      · intro w5 hS
        rintro v24 h24 _ rfl _ rfl v27 h27 v28 h28 _ rfl v30 h30 v31 h31 _ rfl _ rfl v34 h34
        refine Rg.Then.nil ?_
        have hrt : Rt wr.heap.size w5 v31 (l.take j ++ [s]) := h31
        have hnm : Nm w5 (fun k => wr.heap.size ≤ k) v34 (l.drop j) := h34
        clear h31 h34
        obtain ⟨a31, c31, rfl, -⟩ := (nm_of_rt hrt).shape
        obtain ⟨a34, c34, rfl, -⟩ := hnm.shape
        have HSW := hid hS
        obtain ⟨v', w6, hrun, ho, hx⟩ := app_fine hrt hS.fr.size hnm (by simp; omega) 25
        have HRUN := hid hrun
        have HO := hid ho
        have HG6 := hid (show Grew wr w6 from by
          have h1 : Fr (fun k => wr.heap.size ≤ k) wr w6 := by
            rcases hx with hx | ⟨g', cap, cur, -, hg', -, -, -, rfl⟩
            · exact hS.fr.trans (Grew.any hx) (fun _ _ e => e)
            · exact hS.fr.trans (G := fun k => wr.heap.size ≤ k) ⟨rfl, rfl, rfl, by simp, fun k _ hk => setRow_other _ _ k _ (fun e => hk (by omega))⟩ (fun _ _ e => e)
          exact h1.mono (fun k hk e => by omega))
        clear hrt hnm hS hrun ho hx h24 h27 h28 h30
        simp only [List.drop_succ_cons, List.drop_zero]
        refine wpList_app rfl rfl ?hs ?hx HRUN.out ?_
        case hs => simp [Act.eval, Act.put]
        case hx => simp [Act.eval, Act.put]
        clear HRUN
        go_wp2
        go_ret
        refine ⟨_, l.take j ++ [s] ++ l.drop j, rfl, (nm_of_rt HO.out).mono (fun _ _ f => f.elim), ?_, ?_, ?_, by simp; omega, HGR.out.trans HG6.out (fun _ _ f => f)⟩
        · exact (ins_ok HS.out HD.out HM.out HLT.out (fun y hy => by rw [List.drop_eq_nil_of_le (by have := HJ.out; omega)] at hy; simp at hy)).1
        · exact (ins_ok HS.out HD.out HM.out HLT.out (fun y hy => by rw [List.drop_eq_nil_of_le (by have := HJ.out; omega)] at hy; simp at hy)).2
        · exact fun y => ins_mem

/-- the names free in x, each once, in order -/
def RfPost (w : World) (x : X) (e : Ending) (w' : World) : Prop :=
  ∃ v m, e = .returned v ∧ Nm w' (fun _ => False) v m ∧ m.Pairwise (fun x y => x ≤ y) ∧ m.Nodup ∧ (∀ y, y ∈ m ↔ y ∈ x.fv) ∧ Grew w w'
/-- what Free answers of the parts -/
def RfAt (w : World) (D : Nat → Prop) (av : Option Addr) (l : List X) : Prop :=
  l ≠ [] → ∃ g o, av = some ⟨g, o, none⟩ ∧ ∀ i x, l[i]? = some x → ∃ an cn aa ca, El w D g (o + i * 4) x an cn aa ca ∧ ∀ w', Grew w w' →
    Calls Try.prog 45 #[.agg #[Kv x.kind, St x.text, .slice an x.names.length cn, .slice aa x.parts.length ca]] w' (RfPost w' x)

theorem fvs_take_len (l : List X) (i : Nat) : (fvs (l.take i)).length ≤ (fvs l).length := by
  induction l generalizing i with
  | nil => simp
  | cons x r ih =>
    cases i with
    | zero => simp [fvs]
    | succ i => have := ih i; simp only [List.take_succ_cons, fvs, List.length_append]; omega
theorem size_le_sizes (l : List X) (i : Nat) (x : X) (h : l[i]? = some x) : x.size ≤ sizes l := by
  induction l generalizing i with
  | nil => simp at h
  | cons y r ih =>
    cases i with
    | zero => simp at h; subst h; simp only [sizes]; omega
    | succ i => have := ih i (by simpa using h); simp only [sizes]; omega
theorem mem_take_succ {l : List Str} {j : Nat} {x y : Str} (h : l[j]? = some x) : y ∈ l.take (j + 1) ↔ y ∈ l.take j ∨ y = x := by
  rw [List.take_add_one, h, List.mem_append]
  simp

set_option maxHeartbeats 8000000 in
set_option maxRecDepth 100000 in
theorem reffree_core {w : World} {D : Nat → Prop} {av : Option Addr} {l : List X} {cap : Nat} (H : RfAt w D av l) (hsz : sizes l ≤ 100000) (hl : l.length ≤ 100000) (w' : World) (hw : Grew w w') (k : Int) (t : Str) (vn : Value) (ns : List Str) (hn : Nm w D vn ns)
    (h5 : k = 5 → l = []) : Calls Try.prog 45 #[.agg #[Kv k, St t, vn, .slice av l.length cap]] w' (RfPost w' (.mk k t ns l)) := by
  obtain ⟨an, cn, rfl, hn1, hn2⟩ := hn.shape
  obtain ⟨W, hW⟩ : ∃ q : World, q = w'.alloc (.cells #[Kv k, St t, .slice an ns.length cn, .slice av l.length cap] 28) := ⟨_, rfl⟩
  have gW : Grew w' W := by rw [hW]; exact (Fr.refl _ _).alloc _
  have hbk : W.heap[w'.heap.size]? = some (.cells #[Kv k, St t, .slice an ns.length cn, .slice av l.length cap] 28 (0, 0)) := by rw [hW]; exact heap_alloc_new w' _
  have e0 := cell_of_get hbk 0
  have e1 := cell_of_get hbk 1
  have HE2 := hid (cell_of_get hbk 2)
  have HE3 := hid (cell_of_get hbk 3)
  have HG := hid gW
  have HGW := hid (hw.trans gW (fun _ _ f => f))
  have HN := hid (hn.grew (hw.trans gW (fun _ _ f => f)))
  have HH := hid H
  have HSZ := hid hsz
  clear H hw hbk hn gW
  by_cases k5 : k = 5
  · subst k5
    obtain rfl := h5 rfl
    clear h5
    go_enter Try.func45, Try.ntmps45
    go_upto_region 1 with (fail)
    rw [← (show W = w'.alloc (.cells #[Kv 5, St t, .slice an ns.length cn, .slice av 0 cap] 28) from hW)]
    clear hW
    go_wp2
    go_ret
    exact ⟨_, [t], rfl, ⟨_, 1, rfl, Nat.le_refl _, by simp [maxLen], .inr ⟨W.heap.size, 0, rfl, fun f => f, fun i hi => by
      obtain rfl : i = 0 := by simp at hi; omega
      rw [Nat.zero_add, cell_of_get (heap_alloc_new W _)]; rfl⟩⟩, by simp, by simp, fun y => by rw [mem_fv]; simp [fvs], HG.out.trans ((Fr.refl _ _).alloc _) (fun _ _ f => f)⟩
  go_enter Try.func45, Try.ntmps45
  go_upto_region 1 with (fail)
  rw [← hW]
  clear hW h5
  go_wp2
  clear e0 e1
  have hk5 : (k == 5) = false := by simpa using k5
  rw [hk5]
  go_loopw [3, 4] (fun a b wr => ∃ (i : Nat) (m : List Str) (aO : Option Addr) (cO : Nat), i ≤ l.length ∧ b = .int .i64 i ∧ a = .slice aO m.length cO ∧ Nm wr (fun _ => False) (.slice aO m.length cO) m ∧ m.Pairwise (fun x y => x ≤ y) ∧ m.Nodup ∧ (∀ y, y ∈ m ↔ y ∈ fvs (l.take i)) ∧ Grew W wr) (fun _ i _ => l.length - (intOf i).toNat)
  case atStart => exact ⟨0, [], none, 0, Nat.zero_le _, rfl, rfl, ⟨none, 0, rfl, Nat.le_refl _, by simp [maxLen], .inl rfl⟩, by simp, by simp, fun y => by simp [fvs], Fr.refl _ _⟩
  case round =>
    obtain ⟨i, m, aO, cO, hi, rfl, rfl, hnm, hso, hno, hme, hgr⟩ := hrel
    have e3 := hgr.cell HE3.out (fun f => f)
    have hg2 := HGW.out.trans hgr (fun _ _ f => f)
    have HGR := hid hgr
    have HNM := hid hnm
    have HSO := hid hso
    have HNO := hid hno
    have HME := hid hme
    clear hnm hso hno hme
    by_cases hlt : i < l.length
    · obtain ⟨x, hx⟩ := at_of_lt hlt
      obtain ⟨g, o, rfl, hel⟩ := HH.out (fun e => by rw [e] at hlt; simp at hlt)
      obtain ⟨an2, cn2, aa2, ca2, he, hc⟩ := hel i x hx
      have c0 := hg2.cell he.c0 (fun f => f)
      have c1 := hg2.cell he.c1 (fun f => f)
      have c2 := hg2.cell he.c2 (fun f => f)
      have c3 := hg2.cell he.c3 (fun f => f)
      have hcall := hc wr hg2
      have HFT := hid (fvs_take l i x hx)
      have HXS := hid (size_le_sizes l i x hx)
      clear he hel hc hx hgr hg2
      go_wp2_with (go_at_call 45; (with_reducible refine hcall.mono ?_); rintro e w4 ⟨v5, kx, rfl, hnx, hsx, hdx, hmx, hg4⟩; clear hcall c0 c1 c2 c3 e3; have HNX := hid hnx; have HDX := hid hdx; have HMX := hid hmx; have HG4 := hid hg4; obtain ⟨aX, cX, rfl, hX1, hX2⟩ := hnx.shape; clear hnx hsx hdx hmx hg4)
      replace hX2 : cX ≤ 9223372036854775807 := hX2
      obtain ⟨wo, rfl⟩ : ∃ q : World, q = wr := ⟨_, rfl⟩
      go_loopw [3, 6] (fun a b wr => ∃ (j : Nat) (m2 : List Str) (aO : Option Addr) (cO : Nat), j ≤ kx.length ∧ b = .int .i64 j ∧ a = .slice aO m2.length cO ∧ Nm wr (fun _ => False) (.slice aO m2.length cO) m2 ∧ m2.Pairwise (fun x y => x ≤ y) ∧ m2.Nodup ∧ (∀ y, y ∈ m2 ↔ y ∈ fvs (l.take i) ∨ y ∈ kx.take j) ∧ Grew w4 wr) (fun _ j _ => kx.length - (intOf j).toNat)
      case atStart => exact ⟨0, m, aO, cO, Nat.zero_le _, rfl, rfl, HNM.out.grew HG4.out, HSO.out, HNO.out, fun y => by rw [HME.out y]; simp, Fr.refl _ _⟩
      case round =>
        obtain ⟨j, m2, a2, c2, hj, rfl, rfl, hnm, hso, hno, hme, hgr⟩ := hrel
        have HGR2 := hid hgr
        have HNM2 := hid hnm
        have HSO2 := hid hso
        have HNO2 := hid hno
        have HME2 := hid hme
        by_cases hjt : j < kx.length
        · obtain ⟨s, hs⟩ := at_of_lt hjt
          obtain ⟨g2, o2, c3, e, -, -, -, hel⟩ := HNX.out.row (fun e => by rw [e] at hjt; simp at hjt)
          simp only [Value.slice.injEq] at e
          obtain ⟨rfl, -, rfl⟩ := e
          have cs := hgr.cell (hel j s hs) (fun f => f)
          have hml : m2.length ≤ 400000 := by
            have h1 := nodup_len hno (m := fvs (l.take i) ++ kx) (fun y hy => List.mem_append.2 (((hme y).1 hy).imp id (fun q => List.mem_of_mem_take q)))
            have h2 := fvs_take_len l i
            have h3 := fvs_len l
            have h4 := nodup_len HDX.out (m := x.fv) (fun y hy => (HMX.out y).1 hy)
            have h5 := fv_len x
            have h6 := HXS.out
            have h7 := HSZ.out
            rw [List.length_append] at h1
            omega
          have hcall := with_any hnm s hso hno hml wr (Fr.refl _ _)
          have HTS := hid (fun y => mem_take_succ (y := y) hs)
          clear hel hs hgr hnm hso hno hme hml
          go_wp2_with (go_at_call 66; (with_reducible refine hcall.mono ?_); rintro e w6 ⟨v6, m3, rfl, hn3, hs3, hd3, hm3, -, hg6⟩; clear hcall cs; have HN3 := hid hn3; have HS3 := hid hs3; have HD3 := hid hd3; have HM3 := hid hm3; have HG6 := hid hg6; obtain ⟨a3, c3, rfl, -⟩ := hn3.shape; clear hn3 hs3 hd3 hm3 hg6)
          go_roundw
          case rel => exact ⟨j + 1, m3, _, _, by omega, by go_num, rfl, HN3.out, HS3.out, HD3.out, fun y => by rw [HM3.out y, HME2.out y, HTS.out y, or_assoc], HGR2.out.trans HG6.out (fun _ _ f => f)⟩
          case measure => simp [intOf]; omega
        · obtain rfl : j = kx.length := by omega
          clear hgr hnm hso hno hme
          go_wp2
          go_roundw
          case rel => exact ⟨i + 1, m2, _, _, by omega, by go_num, rfl, HNM2.out, HSO2.out, HNO2.out, fun y => by rw [HME2.out y, HFT.out y, List.take_length, HMX.out y], HGR.out.trans (HG4.out.trans HGR2.out (fun _ _ f => f)) (fun _ _ f => f)⟩
          case measure => simp [intOf]; omega
    · obtain rfl : i = l.length := by omega
      have e2 := hgr.cell HE2.out (fun f => f)
      have hml : m.length ≤ 900000 := by
        have h1 := nodup_len HNO.out (m := fvs (l.take l.length)) (fun y hy => (HME.out y).1 hy)
        have h2 := fvs_take_len l l.length
        have h3 := fvs_len l
        have h7 := HSZ.out
        omega
      have hcall := without_any HNM.out (HN.out.grew hgr) hml
      clear hgr hg2
      go_wp2_with (go_at_call 41; (with_reducible refine hcall.mono ?_); rintro e w6 ⟨v6, rfl, hrt, hg6⟩; clear hcall)
      go_ret
      refine ⟨_, wo m ns, rfl, (nm_of_rt hrt).mono (fun _ _ f => f.elim), HSO.out.sublist (List.filter_sublist), HNO.out.sublist (List.filter_sublist), fun y => ?_, HG.out.trans (HGR.out.trans hg6 (fun _ _ f => f)) (fun _ _ f => f)⟩
      rw [mem_fv]
      have := HME.out y
      rw [List.take_length] at this
      simp [wo, List.mem_filter, this, k5]

/-- a name's term has no parts -/
inductive Vo : X → Prop
  | mk (k : Int) (t : Str) (ns : List Str) (a : List X) (h5 : k = 5 → a = []) (h : ∀ x ∈ a, Vo x) : Vo (.mk k t ns a)

theorem len_le_sizes (l : List X) : l.length ≤ sizes l := by
  induction l with
  | nil => simp
  | cons x r ih => have := X.size_eq x; simp only [sizes, List.length_cons]; omega
theorem reffree_row {w : World} {D : Nat → Prop} {v : Value} {l : List X} (h : Row w D v l) : (∀ x ∈ l, Vo x) → sizes l ≤ 100000 → ∀ w', Grew w w' → ∀ (k : Int) (t : Str) (vn : Value) (ns : List Str), Nm w D vn ns → (k = 5 → l = []) →
    Calls Try.prog 45 #[.agg #[Kv k, St t, vn, v]] w' (RfPost w' (.mk k t ns l)) := by
  refine Row.ind (P := fun v l => (∀ x ∈ l, Vo x) → sizes l ≤ 100000 → ∀ w', Grew w w' → ∀ (k : Int) (t : Str) (vn : Value) (ns : List Str), Nm w D vn ns → (k = 5 → l = []) →
    Calls Try.prog 45 #[.agg #[Kv k, St t, vn, v]] w' (RfPost w' (.mk k t ns l))) ?_ ?_ h
  · intro ad cap _ hsz w' hw k t vn ns hn h5
    exact reffree_core (D := D) (l := []) (fun e => absurd rfl e) hsz (by simp) w' hw k t vn ns hn h5
  · intro l g o cap _ _ _ H hs hsz w' hw k t vn ns hn h5
    refine reffree_core (D := D) (fun _ => ⟨g, o, rfl, fun i x hx => ?_⟩) hsz (by have := len_le_sizes l; omega) w' hw k t vn ns hn h5
    obtain ⟨an, cn, aa, ca, he, hc⟩ := H i x hx
    refine ⟨an, cn, aa, ca, he, fun w2 hg => ?_⟩
    have hvo := hs x (List.mem_of_getElem? hx)
    have hxs := size_le_sizes l i x hx
    cases hvo with
    | mk k t ns a h5 h => exact hc h (show sizes a ≤ 100000 by simp only [X.size] at hxs; omega) w2 hg k t _ ns he.nm h5
/-- Free -/
theorem reffree_any {w : World} {D : Nat → Prop} {e : Value} {x : X} (h : Rd w D e x) (hx : Vo x) (hsz : x.size ≤ 100000) (w' : World) (hg : Grew w w') : Calls Try.prog 45 #[e] w' (RfPost w' x) := by
  obtain ⟨vn, va, rfl, hn, hr⟩ := h
  cases hx with
  | mk k t ns a h5 h => exact reffree_row hr h (show sizes a ≤ 100000 by simp only [X.size] at hsz; omega) w' hg k t vn ns hn h5
end Go.Proofs.Ytddcfnjmppijjaa
