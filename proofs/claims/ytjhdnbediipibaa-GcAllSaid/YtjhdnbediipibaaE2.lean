import Derived.Test.YtjhdnbediipibaaE1
import Derived.Test.YtjhdnbediipibaaR2
/-! The document's heap: shape, Put. -/
namespace Go.Proofs.Ytjhdnbediipibaa
open Go.RowKit

theorem E86 : ElemOk 86 82 8 := ⟨by kernel_rfl, by
  obtain ⟨i, hi, h1, h2, h3⟩ := info_parts (P := Try.prog) (e := 86) (z := .pointer none) (size := 1) (bytes := 8) (by kernel_rfl)
  exact ⟨i, _, hi, h1, h2, h3, rfl⟩⟩

theorem Rw.one (e : TypeId) (w : World) (v : Value) : Rw e (w.alloc (.cells #[v] e)) (.slice (some ⟨w.heap.size, 0, none⟩) 1 1) [v] :=
  Rw.mk (xs := [v]) (heap_alloc_new w _) (Nat.le_refl _) (by simp [maxLen]) (by simp) (by simp)

set_option maxHeartbeats 1000000 in
/-- what Put leaves -/
theorem RX.added {w W1 W2 : World} {xb : Nat} {A : AH} {fp : List Nat} {lv lv' : Value} {xs : List PO} (h : RX w xb A fp lv xs) (hG : Grew w W1) (x : PO) (hx : x.holdsR W1)
    (hxb : ∀ b ∈ x.blocks, w.heap.size ≤ b) (hxn : x.blocks.Nodup) (hxa : x.at' = A.used) (hr : Rw 86 W2 lv' (xs.map PO.ptr ++ [x.ptr])) (hF : Fr (fun b => lv.ownBlock = some b) W1 W2)
    (hl : ∀ g, lv'.ownBlock = some g → lv.ownBlock = some g ∨ W1.heap.size ≤ g) (u : Int) :
    ∃ fp', RX ((W2.setCell ⟨xb, 2, none⟩ lv').setCell ⟨xb, 1, none⟩ (Kv u)) xb ⟨A.objs ++ [(A.used, x.o)], u, A.words⟩ fp' lv' (xs ++ [x]) ∧
      Fr (· ∈ fp) w ((W2.setCell ⟨xb, 2, none⟩ lv').setCell ⟨xb, 1, none⟩ (Kv u)) ∧ ∀ b ∈ fp', b ∈ fp ∨ w.heap.size ≤ b := by
  have hlt := (show RH w xb A fp from ⟨lv, xs, h⟩).lt
  have hxlt := hx.lt
  have hGs := hG.size
  obtain ⟨h1, h2, h3, h4, h5, h6⟩ := h
  have n1 : lv.ownBlock ≠ some xb := by
    intro e; rw [h5] at h6
    simp only [List.nodup_cons, List.mem_append, Option.mem_toList] at h6
    exact h6.1 (.inl e)
  have n2 : ∀ y ∈ xs, ∀ b ∈ y.blocks, b ≠ xb ∧ lv.ownBlock ≠ some b := by
    intro y hy b hb
    have hm : b ∈ xs.flatMap PO.blocks := List.mem_flatMap.2 ⟨y, hy, hb⟩
    rw [h5] at h6
    simp only [List.nodup_cons, List.mem_append, Option.mem_toList, List.nodup_append] at h6
    exact ⟨fun e => h6.1 (.inr (e ▸ hm)), fun e => h6.2.2.2 b e b hm rfl⟩
  have n3 : (xs.flatMap PO.blocks).Nodup := by
    rw [h5] at h6
    simp only [List.nodup_cons, List.nodup_append] at h6
    exact h6.2.2.1
  have hxbm : xb ∈ fp := by rw [h5]; simp
  have hlvm : ∀ g, lv.ownBlock = some g → g ∈ fp := fun g hg => by rw [h5]; simp [hg]
  have hysm : ∀ b, b ∈ xs.flatMap PO.blocks → b ∈ fp := fun b hb => by rw [h5]; simp only [List.mem_cons, List.mem_append]; exact .inr (.inr hb)
  have hset : Fr (fun k => k = xb) W2 ((W2.setCell ⟨xb, 2, none⟩ lv').setCell ⟨xb, 1, none⟩ (Kv u)) :=
    ((Fr.refl (fun k => k = xb) W2).setCell (p := ⟨xb, 2, none⟩) (fun _ => rfl) _).setCell (p := ⟨xb, 1, none⟩) (fun _ => rfl) _
  have hF2 : Fr (fun k => k = xb ∨ lv.ownBlock = some k) W1 ((W2.setCell ⟨xb, 2, none⟩ lv').setCell ⟨xb, 1, none⟩ (Kv u)) :=
    (hF.mono (fun _ _ f => .inr f)).trans hset (fun i _ f => .inl f)
  have hF3 : Fr (fun k => k = xb ∨ lv.ownBlock = some k) w ((W2.setCell ⟨xb, 2, none⟩ lv').setCell ⟨xb, 1, none⟩ (Kv u)) := hG.any.trans hF2 (fun _ _ f => f)
  have hW2 : W2.heap[xb]? = some (.cells #[Kv A.words, Kv A.used, lv] 84 (0, 0)) := hF.get (hG.get h1 (fun f => f)) (fun e => n1 e)
  have hl2 : ∀ g, lv'.ownBlock = some g → g ≠ xb ∧ g ∉ xs.flatMap PO.blocks ∧ g ∉ x.blocks := by
    intro g hg
    rcases hl g hg with e | e
    · refine ⟨fun q => n1 (q ▸ e), fun q => ?_, fun q => ?_⟩
      · obtain ⟨y, hy, hb⟩ := List.mem_flatMap.1 q
        exact (n2 y hy g hb).2 e
      · have a1 := hxb g q
        have a2 := hlt g (hlvm g e)
        omega
    · refine ⟨fun q => ?_, fun q => ?_, fun q => ?_⟩
      · have := hlt xb hxbm; omega
      · have := hlt g (hysm g q); omega
      · have := hxlt g q; omega
  refine ⟨xb :: (lv'.ownBlock.toList ++ (xs ++ [x]).flatMap PO.blocks), ⟨?_, ?_, ?_, ?_, rfl, ?_⟩, hF3.mono ?_, ?_⟩
  · rw [setCell_get (setCell_get hW2 2 lv') 1]; rfl
  · have := hr.kept hset (fun g hg e => (hl2 g hg).1 e)
    simpa using this
  · simp [h3, PO.pair, hxa]
  · intro y hy
    rw [List.mem_append, List.mem_singleton] at hy
    rcases hy with hy | rfl
    · exact (h4 y hy).kept hF3 (fun b hb e => by
        rcases e with e | e
        · exact (n2 y hy b hb).1 e
        · exact (n2 y hy b hb).2 e)
    · exact hx.kept hF2 (fun b hb e => by
        have := hxb b hb
        rcases e with rfl | e
        · have := hlt b hxbm; omega
        · have := hlt b (hlvm b e); omega)
  · simp only [List.nodup_cons, List.mem_append, Option.mem_toList, List.flatMap_append, List.flatMap_cons, List.flatMap_nil, List.append_nil, List.nodup_append, not_or]
    refine ⟨⟨fun e => (hl2 xb e).1 rfl, fun e => ?_, fun e => ?_⟩, ?_, ⟨n3, hxn, fun a ha b hb e => ?_⟩, fun a ha b hb e => ?_⟩
    · obtain ⟨y, hy, hb⟩ := List.mem_flatMap.1 e
      exact (n2 y hy xb hb).1 rfl
    · have a1 := hxb xb e
      have a2 := hlt xb hxbm
      omega
    · cases lv'.ownBlock <;> simp
    · subst e
      have a1 := hxb a hb
      have a2 := hlt a (hysm a ha)
      omega
    · subst e
      rcases hb with hb | hb
      · exact (hl2 a ha).2.1 hb
      · exact (hl2 a ha).2.2 hb
  · intro i _ e
    rcases e with rfl | e
    · exact hxbm
    · exact hlvm i e
  · intro b hb
    simp only [List.mem_cons, List.mem_append, Option.mem_toList, List.flatMap_append, List.flatMap_cons, List.flatMap_nil, List.append_nil] at hb
    rcases hb with rfl | hb | hb | hb
    · exact .inl hxbm
    · rcases hl b hb with e | e
      · exact .inl (hlvm b e)
      · exact .inr (by omega)
    · exact .inl (hysm b hb)
    · exact .inr (hxb b hb)

/-! a row of its own, made in a region that draws -/
def FMine (n0 : Nat) (l : List Int) (v : Value) (w : World) : Prop := (∃ a c, v = .slice a l.length c) ∧ Ow w v l ∧ ∀ g, v.ownBlock = some g → n0 ≤ g
theorem FMine.stays (n0 : Nat) (l : List Int) : ∀ v w w', Grew w w' → FMine n0 l v w → FMine n0 l v w' := fun _ _ _ hs ⟨h1, h2, h3⟩ => ⟨h1, h2.kept hs (fun _ _ f => f), h3⟩

theorem Yields.app {P : Program} {o : Oper} {a : Act} {w : World} {G : Value → World → Prop} {s x : Operand} {T T' : TypeId}
    (ho : o.op = .call { callee := .builtin .append, args := #[s, x], argTypes := #[T, T'] }) {v u v' : Value} {w' : World} (hs : a.eval s = v) (hx : a.eval x = u)
    (hr : (Builtin.append_ #[T, T'] o.type #[v, u]).run P w = .ok v' w') (h : G v' w') : Yields P o a w G := by
  unfold Yields
  simp [execOp, ho, resolve, invoke, builtin, hs, hx, hr, Result.andThen]
  exact h

/-- a row of none, with no room, made in a region that draws -/
def FZero (n0 : Nat) (v : Value) (w : World) : Prop := ∃ g, v = .slice (some ⟨g, 0, none⟩) 0 0 ∧ n0 ≤ g ∧ w.heap[g]? = some (.cells #[] 3 (0, 0))
theorem FZero.stays (n0 : Nat) : ∀ v w w', Grew w w' → FZero n0 v w → FZero n0 v w' := fun _ _ _ hs ⟨g, h1, h2, h3⟩ => ⟨g, h1, h2, hs.get h3 (fun f => f)⟩
theorem app_zero {w : World} {u : Value} {m : List Int} {g : Nat} (hg : w.heap[g]? = some (.cells #[] 3 (0, 0))) (k : Ow w u m) (hb : m.length ≤ 17592186044416) (ty : TypeId) :
    ∃ v' w', (Builtin.append_ #[22, 22] ty #[.slice (some ⟨g, 0, none⟩) 0 0, u]).run Try.prog w = .ok v' w' ∧ Ow w' v' m ∧ Grew w w' ∧ (∀ h, v'.ownBlock = some h → h = g ∨ w.heap.size ≤ h) := by
  have h0 : Ow w (.slice (some ⟨g, 0, none⟩) 0 0) [] := ⟨by simp, .inr ⟨g, 0, #[], rfl, Nat.zero_le _, hg, Nat.le_refl _, by simp [maxLen], by simp, by simp⟩⟩
  obtain ⟨v', w', hr, ho, hf, hfr⟩ := app_ow h0 k (by simpa using hb) ty
  refine ⟨v', w', hr, by simpa using ho, ?_, fun h hh => by
    rcases hfr h hh with e | e
    · simp [Value.ownBlock] at e; exact .inl e.symm
    · exact .inr e⟩
  obtain ⟨i, z, hi, hz, hsz, hby, hzc⟩ := E3.row
  rcases k.parts with ⟨rfl, rfl⟩ | ⟨gu, cu, cur, rfl, hgu, hun, hum, hus, hut⟩
  · have hr2 := run_append_owned_none (P := Try.prog) (w := w) 0 22 ty 3 i 1 E3.sl hi _ 0 [] (Ow.iff.1 h0)
    rw [hr2] at hr; cases hr
    exact Fr.refl _ _
  · have hnews : ∀ j y, (m.map Kv)[j]? = some y → w.cell? ((⟨gu, 0, none⟩ : Addr).add j) = some y := by
      intro j y hj
      rw [addr_add, cell_of_get hgu]
      have hjl : j < m.length := by have := (List.getElem?_eq_some_iff.1 hj).1; simpa using this
      rw [hut j hjl]
      simpa [List.getElem?_eq_getElem hjl] using hj
    cases m with
    | nil =>
      have hr2 := run_append_room (P := Try.prog) w 22 ty 3 i E3.sl hi g 0 0 #[] hg ⟨gu, 0, none⟩ 0 cu [] (by simp) (by simp) (by simp) (by simp) (by simp)
      rw [show ([] : List Int).length = 0 from rfl, hr2] at hr; cases hr
      have hgl := lt_of_get hg
      refine ⟨rfl, rfl, rfl, by simp [World.setRow], fun q hq _ => ?_⟩
      by_cases e : q = g
      · subst e
        simp [World.setRow, Array.getElem?_modify, hg]
      · simp [World.setRow, Array.getElem?_modify, Ne.symm e]
    | cons a r =>
      have hr2 := run_append_grow (P := Try.prog) w 22 ty 3 i z E3.sl hi hz ⟨g, 0, none⟩ 0 0 [] (by simp) (by simp) ⟨gu, 0, none⟩ (a :: r).length cu ((a :: r).map Kv) (by simp [hsz]) hnews (by simp) (by simp at hb ⊢; omega) (by rw [hby]; exact growslice_fits (by simp) (by omega))
      rw [hr2] at hr; cases hr
      exact (Fr.refl _ w).drew.alloc _

/-- two values that lead to different blocks -/
def Sep (w : World) (u v : Value) : Prop := (∀ g, u.ownBlock = some g → g < w.heap.size) ∧ (∀ g, v.ownBlock = some g → g < w.heap.size) ∧ ∀ g, u.ownBlock = some g → v.ownBlock ≠ some g
theorem Sep.left {w w' : World} {u u' v : Value} (h : Sep w u v) (hs : w.heap.size ≤ w'.heap.size) (k : ∀ g, u'.ownBlock = some g → (u.ownBlock = some g ∨ w.heap.size ≤ g) ∧ g < w'.heap.size) : Sep w' u' v := by
  refine ⟨fun g hg => (k g hg).2, fun g hg => by have := h.2.1 g hg; omega, fun g hg e => ?_⟩
  rcases (k g hg).1 with q | q
  · exact h.2.2 g q e
  · have := h.2.1 g e; omega
theorem Sep.symm {w : World} {u v : Value} (h : Sep w u v) : Sep w v u := ⟨h.2.1, h.1, fun g hg e => h.2.2 g e hg⟩
theorem Sep.right {w w' : World} {u v v' : Value} (h : Sep w u v) (hs : w.heap.size ≤ w'.heap.size) (k : ∀ g, v'.ownBlock = some g → (v.ownBlock = some g ∨ w.heap.size ≤ g) ∧ g < w'.heap.size) : Sep w' u v' :=
  (h.symm.left hs k).symm
theorem Sep.grow {w w' : World} {u v : Value} (h : Sep w u v) (hs : w.heap.size ≤ w'.heap.size) : Sep w' u v :=
  ⟨fun g hg => by have := h.1 g hg; omega, fun g hg => by have := h.2.1 g hg; omega, h.2.2⟩

/-- what Put's first statement keeps: the rows that it makes lie apart -/
def IPut (a : Act) (w : World) : Prop :=
  a.tmps.size = 52 ∧ Sep w (a.tmps.getD 15 undef) (a.tmps.getD 18 undef) ∧ Sep w (a.tmps.getD 15 undef) (a.tmps.getD 20 undef) ∧ Sep w (a.tmps.getD 17 undef) (a.tmps.getD 18 undef) ∧ Sep w (a.tmps.getD 17 undef) (a.tmps.getD 20 undef)
theorem put_size (a : Act) (d : Option Tmp) (v : Value) : (a.put d v).tmps.size = a.tmps.size := by cases d <;> simp [Act.put]
theorem IPut.other {a : Act} {w w' : World} (h : IPut a w) (hs : Grew w w') {d : Tmp} (v : Value) (h1 : d ≠ 15) (h2 : d ≠ 17) (h3 : d ≠ 18) (h4 : d ≠ 20) : IPut (a.put (some d) v) w' := by
  obtain ⟨k0, k1, k2, k3, k4⟩ := h
  unfold IPut
  rw [put_size, put_getD_ne v h1, put_getD_ne v h2, put_getD_ne v h3, put_getD_ne v h4]
  exact ⟨k0, k1.grow hs.size, k2.grow hs.size, k3.grow hs.size, k4.grow hs.size⟩
theorem IPut.p15 {a : Act} {w w' : World} (h : IPut a w) (hs : Grew w w') {v : Value} (hv : ∀ g, v.ownBlock = some g → w.heap.size ≤ g ∧ g < w'.heap.size) : IPut (a.put (some 15) v) w' := by
  obtain ⟨k0, k1, k2, k3, k4⟩ := h
  unfold IPut
  rw [put_size, put_getD_eq v (by rw [k0]; decide), put_getD_ne v (by decide), put_getD_ne v (by decide), put_getD_ne v (by decide)]
  exact ⟨k0, k1.left hs.size (fun g hg => ⟨.inr (hv g hg).1, (hv g hg).2⟩), k2.left hs.size (fun g hg => ⟨.inr (hv g hg).1, (hv g hg).2⟩), k3.grow hs.size, k4.grow hs.size⟩
theorem IPut.p18 {a : Act} {w w' : World} (h : IPut a w) (hs : Grew w w') {v : Value} (hv : ∀ g, v.ownBlock = some g → w.heap.size ≤ g ∧ g < w'.heap.size) : IPut (a.put (some 18) v) w' := by
  obtain ⟨k0, k1, k2, k3, k4⟩ := h
  unfold IPut
  rw [put_size, put_getD_eq v (by rw [k0]; decide), put_getD_ne v (by decide), put_getD_ne v (by decide), put_getD_ne v (by decide)]
  exact ⟨k0, k1.right hs.size (fun g hg => ⟨.inr (hv g hg).1, (hv g hg).2⟩), k2.grow hs.size, k3.right hs.size (fun g hg => ⟨.inr (hv g hg).1, (hv g hg).2⟩), k4.grow hs.size⟩
theorem IPut.p17 {a : Act} {w w' : World} (h : IPut a w) (hs : Grew w w') {v : Value} (hv : ∀ g, v.ownBlock = some g → ((a.tmps.getD 15 undef).ownBlock = some g ∨ w.heap.size ≤ g) ∧ g < w'.heap.size) : IPut (a.put (some 17) v) w' := by
  obtain ⟨k0, k1, k2, k3, k4⟩ := h
  unfold IPut
  rw [put_size, put_getD_eq v (by rw [k0]; decide), put_getD_ne v (by decide), put_getD_ne v (by decide), put_getD_ne v (by decide)]
  exact ⟨k0, k1.grow hs.size, k2.grow hs.size, k1.left hs.size hv, k2.left hs.size hv⟩
theorem IPut.p20 {a : Act} {w w' : World} (h : IPut a w) (hs : Grew w w') {v : Value} (hv : ∀ g, v.ownBlock = some g → ((a.tmps.getD 18 undef).ownBlock = some g ∨ w.heap.size ≤ g) ∧ g < w'.heap.size) : IPut (a.put (some 20) v) w' := by
  obtain ⟨k0, k1, k2, k3, k4⟩ := h
  unfold IPut
  rw [put_size, put_getD_eq v (by rw [k0]; decide), put_getD_ne v (by decide), put_getD_ne v (by decide), put_getD_ne v (by decide)]
  exact ⟨k0, k1.grow hs.size, k1.right hs.size hv, k3.grow hs.size, k3.right hs.size hv⟩

/-- an object's values -/
def FObj (n0 : Nat) (k t : Int) (p n : List Int) (v : Value) (w : World) : Prop := ∃ u1 u2, v = .agg #[Kv k, Kv t, u1, u2] ∧ FMine n0 p u1 w ∧ FMine n0 n u2 w ∧ Sep w u1 u2
/-- an object just made -/
def FBox (n0 : Nat) (k t : Int) (p n : List Int) (v : Value) (w : World) : Prop := ∃ x : PO, v = x.ptr ∧ x.holdsR w ∧ (∀ b ∈ x.blocks, n0 ≤ b) ∧ x.blocks.Nodup ∧ x.at' = k ∧ x.o = ⟨t, p, n⟩
theorem FObj.stays (n0 : Nat) (k t : Int) (p n : List Int) : ∀ v w w', Grew w w' → FObj n0 k t p n v w → FObj n0 k t p n v w' :=
  fun _ _ _ hs ⟨u1, u2, h1, h2, h3, h4⟩ => ⟨u1, u2, h1, FMine.stays _ _ _ _ _ hs h2, FMine.stays _ _ _ _ _ hs h3, h4.grow hs.size⟩
theorem FBox.stays (n0 : Nat) (k t : Int) (p n : List Int) : ∀ v w w', Grew w w' → FBox n0 k t p n v w → FBox n0 k t p n v w' :=
  fun _ _ _ hs ⟨x, h1, h2, h3⟩ => ⟨x, h1, h2.kept hs (fun _ _ f => f), h3⟩
theorem FObj.box {n0 : Nat} {k t : Int} {p n : List Int} {u1 u2 : Value} {w : World} (hn : n0 ≤ w.heap.size) (h : FMine n0 p u1 w) (h' : FMine n0 n u2 w) (hs : Sep w u1 u2) :
    FBox n0 k t p n (.pointer (some ⟨w.heap.size, 0, none⟩)) (w.alloc (.cells #[Kv k, Kv t, u1, u2] 89)) := by
  refine ⟨⟨k, ⟨t, p, n⟩, w.heap.size, u1, u2⟩, rfl, ⟨heap_alloc_new w _, h.2.1.kept (Grew.alloc _ _) (fun _ _ f => f), h'.2.1.kept (Grew.alloc _ _) (fun _ _ f => f)⟩, ?_, ?_, rfl, rfl⟩
  · intro b hb
    simp only [PO.blocks, List.mem_cons, List.mem_append, Option.mem_toList] at hb
    rcases hb with rfl | hb | hb
    · exact hn
    · exact h.2.2 b hb
    · exact h'.2.2 b hb
  · simp only [PO.blocks, List.nodup_cons, List.mem_append, Option.mem_toList, List.nodup_append, not_or]
    refine ⟨⟨fun e => by have := hs.1 _ e; omega, fun e => by have := hs.2.1 _ e; omega⟩, ?_, ?_, fun a ha b hb e => by subst e; exact hs.2.2 a ha hb⟩
    · cases u1.ownBlock <;> simp
    · cases u2.ownBlock <;> simp
end Go.Proofs.Ytjhdnbediipibaa
