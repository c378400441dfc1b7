import Derived.Test.YtjhdnbediipibaaA2
/-! Appends onto rows. -/
namespace Go.Proofs.Ytjhdnbediipibaa
open Go.RowKit

/-- A ROW of one-cell elements of type e. -/
def Rw (e : TypeId) (w : World) (v : Value) (xs : List Value) : Prop := w.ownsRow 0 e 1 v xs.length xs

theorem Ow.iff {w : World} {v : Value} {l : List Int} : Ow w v l ↔ Rw 3 w v (l.map Kv) := by unfold Ow Rw; rw [List.length_map]

theorem Rw.nil (e : TypeId) (w : World) : Rw e w (.slice none 0 0) [] := World.ownsRow_nil w 0 e 1

theorem Rw.parts {e : TypeId} {w : World} {v : Value} {xs : List Value} (h : Rw e w v xs) : (v = .slice none 0 0 ∧ xs = []) ∨
    ∃ g cap cur, v = .slice (some ⟨g, 0, none⟩) xs.length cap ∧ w.heap[g]? = some (.cells cur e (0, 0)) ∧ xs.length ≤ cap ∧ cap ≤ maxLen ∧ cur.size = cap ∧ cur.toList.take xs.length = xs := by
  rcases h.2 with ⟨h1, h2⟩ | ⟨g, cap, cur, hv, _, hg, hn, hm, hs, ht⟩
  · exact .inl ⟨h1, List.eq_nil_of_length_eq_zero h2⟩
  · exact .inr ⟨g, cap, cur, hv, hg, hn, hm, by simpa using hs, by simpa using ht⟩

theorem Rw.mk {e : TypeId} {w : World} {g cap : Nat} {xs : List Value} {cur : Array Value} (hg : w.heap[g]? = some (.cells cur e (0, 0))) (hn : xs.length ≤ cap) (hm : cap ≤ maxLen) (hs : cur.size = cap) (ht : cur.toList.take xs.length = xs) :
    Rw e w (.slice (some ⟨g, 0, none⟩) xs.length cap) xs :=
  ⟨by simp, .inr ⟨g, cap, cur, rfl, Nat.zero_le _, hg, hn, hm, by simpa using hs, by simpa using ht⟩⟩

theorem Rw.kept {e : TypeId} {w w' : World} {F : Nat → Prop} {v : Value} {xs : List Value} (h : Rw e w v xs) (k : Fr F w w') (hF : ∀ g, v.ownBlock = some g → ¬ F g) : Rw e w' v xs := by
  refine ⟨h.1, ?_⟩
  rcases h.2 with hn | ⟨g, cap, cur, rfl, hb, hgg, rest⟩
  · exact .inl hn
  · exact .inr ⟨g, cap, cur, rfl, hb, k.get hgg (hF g rfl), rest⟩

theorem Rw.lt {e : TypeId} {w : World} {v : Value} {xs : List Value} (h : Rw e w v xs) {g : Nat} (hg : v.ownBlock = some g) : g < w.heap.size := (World.ownsRow.lt h g hg).2

theorem Rw.shape {e : TypeId} {w : World} {v : Value} {xs : List Value} (h : Rw e w v xs) : ∃ a cap, v = .slice a xs.length cap ∧ xs.length ≤ cap ∧ cap ≤ maxLen := by
  rcases h.parts with ⟨h1, h2⟩ | ⟨g, cap, cur, hv, hg, hn, hm, hs, hc⟩
  · subst h2; exact ⟨none, 0, h1, Nat.le_refl _, by simp [maxLen]⟩
  · exact ⟨_, cap, hv, hn, hm⟩

theorem Rw.at {e : TypeId} {w : World} {v : Value} {xs : List Value} (h : Rw e w v xs) (hl : 0 < xs.length) :
    ∃ g cap, v = .slice (some ⟨g, 0, none⟩) xs.length cap ∧ xs.length ≤ cap ∧ cap ≤ maxLen ∧ g < w.heap.size ∧ ∀ i (hi : i < xs.length), w.cell? ⟨g, i, none⟩ = some xs[i] ∧ w.frozen? ⟨g, i, none⟩ = false := by
  rcases h.parts with ⟨_, h2⟩ | ⟨g, cap, cur, hv, hg, hn, hm, hs, hc⟩
  · subst h2; simp at hl
  · refine ⟨g, cap, hv, hn, hm, lt_of_get hg, fun i hi => ⟨?_, frozen_of_get hg i⟩⟩
    rw [cell_of_get hg]
    have : (cur.toList.take xs.length)[i]? = xs[i]? := by rw [hc]
    rw [List.getElem?_take_of_lt hi] at this
    simpa [List.getElem?_eq_getElem hi] using this

/-- what an append asks of the element's type -/
structure ElemOk (e T : TypeId) (bytes : Nat) : Prop where
  sl : Try.prog.underlying T = some (.slice e)
  row : ∃ i z, Try.prog.info? e = some i ∧ i.zero = some z ∧ i.size = 1 ∧ i.bytes = bytes ∧ z.cells.size = 1

theorem addr_add (g j : Nat) : (⟨g, 0, none⟩ : Addr).add j = ⟨g, j, none⟩ := by
  unfold Addr.add; split <;> simp_all

/-- append(v, u...) -/
theorem app_rw {e T : TypeId} {bytes : Nat} (E : ElemOk e T bytes) {w : World} {v u : Value} {xs ys : List Value} (h : Rw e w v xs) (k : Rw e w u ys) (h1 : ∀ y ∈ ys, y.oneCell' = true)
    (hb : (xs.length + ys.length) * bytes ≤ 140737488355328) (hm : xs.length + ys.length ≤ maxLen) (ty : TypeId) :
    ∃ v' w', (Builtin.append_ #[T, T] ty #[v, u]).run Try.prog w = .ok v' w' ∧ Rw e w' v' (xs ++ ys) ∧ Fr (fun b => v.ownBlock = some b) w w' ∧ (∀ g, v'.ownBlock = some g → v.ownBlock = some g ∨ w.heap.size ≤ g) := by
  obtain ⟨i, z, hi, hz, hsz, hby, hzc⟩ := E.row
  rcases k.parts with ⟨rfl, rfl⟩ | ⟨gu, cu, cur, rfl, hgu, hun, hum, hus, hut⟩
  · have hr := run_append_owned_none (P := Try.prog) (w := w) 0 T ty e i 1 E.sl hi v xs.length xs h
    exact ⟨v, w, hr, by simpa using h, Fr.refl _ _, fun g hg => .inl hg⟩
  · have hnews : ∀ j y, ys[j]? = some y → w.cell? ((⟨gu, 0, none⟩ : Addr).add j) = some y := by
      intro j y hj
      rw [addr_add, cell_of_get hgu]
      have hjl : j < ys.length := (List.getElem?_eq_some_iff.1 hj).1
      have : (cur.toList.take ys.length)[j]? = ys[j]? := by rw [hut]
      rw [List.getElem?_take_of_lt hjl] at this
      simpa [hj] using this
    rcases h.parts with ⟨rfl, rfl⟩ | ⟨gv, cv, cuv, rfl, hgv, hvn, hvm, hvs, hvt⟩
    · obtain ⟨v', w', hr, ho, hg, _⟩ := run_append_own (P := Try.prog) w w.heap.size T ty e i z 1 bytes E.sl hi hz hsz hby hzc (by omega) (.slice none 0 0) 0 [] (World.ownsRow_nil w _ e 1) ⟨gu, 0, none⟩ ys.length cu ys (by simp) hnews h1 (by simpa using hm) (by simpa using hb) (Nat.le_refl _)
      refine ⟨v', w', hr, ⟨by simp, ?_⟩, (Fr.refl _ w).grown hg (fun k hk _ => hk), fun g hgg => .inr (ho.lt g hgg).1⟩
      rcases ho.2 with ⟨a, b⟩ | ⟨g, cap, cur, a, _, b⟩
      · exact .inl ⟨a, by simpa using b⟩
      · exact .inr ⟨g, cap, cur, by simpa using a, Nat.zero_le _, by simpa using b⟩
    · obtain ⟨v', w', hr, ho, hg, _⟩ := run_append_own (P := Try.prog) w 0 T ty e i z 1 bytes E.sl hi hz hsz hby hzc (by omega) _ xs.length xs h ⟨gu, 0, none⟩ ys.length cu ys (by simp) hnews h1 hm hb (Nat.zero_le _)
      refine ⟨v', w', hr, by unfold Rw; rw [List.length_append]; exact ho, (Fr.refl _ w).grown hg (fun k hk _ => hk), fun g hgg => ?_⟩
      by_cases hroom : xs.length + ys.length ≤ cv
      · have hr2 := run_append_room (P := Try.prog) w T ty e i E.sl hi gv xs.length cv cuv hgv ⟨gu, 0, none⟩ ys.length cu ys (by simp [hsz]) hnews h1 hroom (by rw [hsz, hvs]; omega)
        rw [hr2] at hr
        cases hr
        exact .inl hgg
      · have holds : ∀ j y, xs[j]? = some y → w.cell? ((⟨gv, 0, none⟩ : Addr).add j) = some y := World.ownsRow.cells h (g := gv) rfl
        have hr2 := run_append_grow (P := Try.prog) w T ty e i z E.sl hi hz ⟨gv, 0, none⟩ xs.length cv xs (by simp [hsz]) holds ⟨gu, 0, none⟩ ys.length cu ys (by simp [hsz]) hnews (by omega) (by unfold maxLen at hm; omega) (by rw [hby]; exact growslice_fits (by omega) hb)
        rw [hr2] at hr
        cases hr
        simp [Value.ownBlock] at hgg
        exact .inr (by omega)

theorem E3 : ElemOk 3 22 8 := ⟨by kernel_rfl, by
  obtain ⟨i, hi, h1, h2, h3⟩ := info_parts (P := Try.prog) (e := 3) (z := .int .i64 0) (size := 1) (bytes := 8) (by kernel_rfl)
  exact ⟨i, _, hi, h1, h2, h3, rfl⟩⟩

theorem kv_one (l : List Int) : ∀ y ∈ l.map Kv, y.oneCell' = true := ints_oneCell .i64 l

/-- append of ints -/
theorem app_ow {w : World} {v u : Value} {l m : List Int} (h : Ow w v l) (k : Ow w u m) (hb : l.length + m.length ≤ 17592186044416) (ty : TypeId) :
    ∃ v' w', (Builtin.append_ #[22, 22] ty #[v, u]).run Try.prog w = .ok v' w' ∧ Ow w' v' (l ++ m) ∧ Fr (fun b => v.ownBlock = some b) w w' ∧ (∀ g, v'.ownBlock = some g → v.ownBlock = some g ∨ w.heap.size ≤ g) := by
  obtain ⟨v', w', h1, h2, h3⟩ := app_rw E3 (Ow.iff.1 h) (Ow.iff.1 k) (kv_one m) (by simp; omega) (by simp [maxLen]; omega) ty
  exact ⟨v', w', h1, Ow.iff.2 (by simpa using h2), h3⟩

/-- append(nil, u...): a row of its own -/
theorem app_nil {w : World} {u : Value} {m : List Int} (k : Ow w u m) (hb : m.length ≤ 17592186044416) (ty : TypeId) :
    ∃ v' w', (Builtin.append_ #[22, 22] ty #[.slice none 0 0, u]).run Try.prog w = .ok v' w' ∧ Ow w' v' m ∧ Grew w w' ∧ (∀ g, v'.ownBlock = some g → w.heap.size ≤ g) := by
  obtain ⟨v', w', h1, h2, h3, h4⟩ := app_ow (Ow.nil w) k (by simpa using hb) ty
  exact ⟨v', w', h1, by simpa using h2, h3.mono (fun _ _ f => by simp [Value.ownBlock] at f), fun g hg => (h4 g hg).resolve_left (by simp [Value.ownBlock])⟩

/-- the append's run at the operation -/
theorem wpList_app {P : Program} {ops : Array Oper} {rest : List Oper} {o : Oper} {a : Act} {w : World} {Q : Exit → Act → World → Prop} (hgd : o.guard = none) {s x : Operand} {T T' : TypeId}
    (ho : o.op = .call { callee := .builtin .append, args := #[s, x], argTypes := #[T, T'] }) {v u v' : Value} {w' : World} (hs : a.eval s = v) (hx : a.eval x = u)
    (hr : (Builtin.append_ #[T, T'] o.type #[v, u]).run P w = .ok v' w') (k : wpList P ops Q rest (a.put o.dst v') w') : wpList P ops Q (o :: rest) a w := by
  refine wpList_plain hgd fun K hK => ?_
  unfold Oper.wp
  simp [execOp, ho, resolve, invoke, builtin, hs, hx, hr, Result.andThen]
  exact hK _ _ k
end Go.Proofs.Ytjhdnbediipibaa
