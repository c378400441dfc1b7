import Derived.Test.YtddcfnjmppijjaaM11
import Derived.Test.YtddcfnjmppijjaaM12
import Derived.Test.YtddcfnjmppijjaaM13
import Derived.Test.YtddcfnjmppijjaaM14
import Derived.Test.YtddcfnjmppijjaaM15
import Derived.Test.YtddcfnjmppijjaaM17
import Derived.Test.YtddcfnjmppijjaaM18
import Derived.Test.YtddcfnjmppijjaaM19
import Derived.Test.YtddcfnjmppijjaaM20
/-! Make, of any raw term. -/
namespace Go.Proofs.Ytddcfnjmppijjaa
open Go.RowKit

theorem make_ok {w : World} {mb : Nat} {va : Value} {l : List RT} (h : Parts w mb va l) : MkOk w mb va l := by
  intro w' k n N vs S hF hM hN hS hSn hSl
  obtain ⟨kk, hkk, -, hp⟩ := place5 k 16 (by omega) (by omega) _ rfl
  have hp' : W16 k kk := hp
  obtain ⟨ad, cap, rfl, -⟩ := id h
  have hva : ∃ a m c, Value.slice ad l.length cap = .slice a m c := ⟨_, _, _, rfl⟩
  have hvs : ∃ a m c, vs = .slice a m c := by obtain ⟨a, c, e, -⟩ := hS.shape; exact ⟨a, _, c, e⟩
  have hcase : kk = 0 ∨ kk = 1 ∨ (kk = 2 ∨ kk = 3) ∨ kk = 4 ∨ kk = 5 ∨ kk = 6 ∨ kk = 7 ∨ kk = 8 ∨ kk = 9 ∨ kk = 10 ∨ kk = 11 ∨ kk = 12 ∨ kk = 13 ∨ kk = 14 ∨ kk = 15 := by omega
  rcases hcase with rfl | rfl | e | e | e | e | e | e | e | e | e | e | e | e | e
  · exact make_0 k n N vs S hva hp' hM hvs _ (by omega)
  · exact make_1 k n N vs S hva hp' hM hvs _ (by omega)
  · exact make_2 k n N vs S hva kk e hp' hM hS (by omega) _ (by omega)
  · exact make_4 h k n N vs S kk e hp' hF hM hN hS hSn hSl
  · exact make_5 h k n N vs S kk e hp' hF hM hN hS hSn hSl
  · exact make_6 h k n N vs S kk e hp' hF hM hN hS hSn hSl
  · exact make_7 h k n N vs S kk e hp' hF hM hN hS hSn hSl
  · exact make_8 h k n N vs S kk e hp' hF hM hN hS hSn hSl
  · exact make_9 h k n N vs S kk e hp' hF hM hN hS hSn hSl
  · exact make_10 h k n N vs S kk e hp' hF hM hN hS hSn hSl
  · exact make_11 h k n N vs S kk e hp' hF hM hN hS hSn hSl
  · exact make_12 h k n N vs S kk e hp' hF hM hN hS hSn hSl
  · exact make_13 h k n N vs S kk e hp' hF hM hN hS hSn hSl
  · exact make_14 h k n N vs S kk e hp' hF hM hN hS hSn hSl
  · exact make_15 h k n N vs S kk e hp' hF hM hN hS hSn hSl

/-- Make -/
theorem make_any {w : World} {mb : Nat} {va : Value} {l : List RT} (h : RRow w (fun b => b = mb) va l) : MkOk w mb va l := by
  refine RRow.ind (P := fun va l => MkOk w mb va l) ?_ ?_ h
  · intro ad cap hm
    exact make_ok ⟨ad, cap, rfl, Nat.zero_le _, hm, fun i r hr => by simp at hr⟩
  · intro l g o cap h1 h2 h3 h4
    refine make_ok ⟨_, cap, rfl, h1, h2, fun i r hr => ?_⟩
    obtain ⟨aa, ca, he, hm⟩ := h4 i r hr
    exact ⟨g, o, aa, ca, rfl, h3, he, hm⟩
end Go.Proofs.Ytddcfnjmppijjaa

/-! Term's loops. -/
namespace Go.Proofs.Ytddcfnjmppijjaa
open Go.RowKit

/-- as AS, in Term -/
structure AT (w' : World) (mb N0 b B : Nat) (Wo : World) (kd : Int) (t : Str) (vN : Value) (S' : List Str) (j M : Nat) (vA : Value) (xs : List X) (wr : World) : Prop where
  fr : Fr (fun k => k = mb) w' wr
  cnt : ∃ N1, Mk wr mb N1 ∧ N0 ≤ N1 ∧ N1 ≤ N0 + M
  box : wr.heap[b]? = some (.cells #[Kv kd, St t, vN, vA] 28 (0, 0))
  ox : OX B wr vA xs
  len : xs.length = j
  good : ∀ x ∈ xs, Good S' x
  size : sizes xs ≤ M
  base : B ≤ wr.heap.size
  old : Fr (fun k => k = mb ∨ k = b) Wo wr
  oldB : Wo.heap.size = B

theorem AT.step {w' Wo : World} {mb N0 b B : Nat} {kd : Int} {t : Str} {vN : Value} {S' : List Str} {j M c : Nat} {vA : Value} {xs : List X} {wr : World}
    (h : AT w' mb N0 b B Wo kd t vN S' j M vA xs wr) (hmb : mb < w'.heap.size) (hb0 : w'.heap.size ≤ b) (hb1 : b < B) {w5 : World} (hf : Fr (fun k => k = mb) wr w5) {x : X} {vn vp : Value}
    (hn : Nm w5 (fun k => k < wr.heap.size) vn x.names) (hr : Row w5 (fun k => k < wr.heap.size) vp x.parts) (hgd : Good S' x) (hsz : x.size ≤ c) (hm : ∃ N2, Mk w5 mb N2 ∧ N0 ≤ N2 ∧ N2 ≤ N0 + M + c) (hj : j ≤ 100) (ty : TypeId) :
    ∃ v1 w6, (Builtin.append_ #[26, 26] ty #[vA, .slice (some ⟨w5.heap.size, 0, none⟩) 1 1]).run Try.prog (w5.alloc (.cells #[Kv x.kind, St x.text, vn, vp] 28)) = .ok v1 w6 ∧ (∃ a m c, v1 = .slice a m c) ∧
      w6.cell? ⟨b, 3, none⟩ = some vA ∧ w6.frozen? ⟨b, 3, none⟩ = false ∧ AT w' mb N0 b B Wo kd t vN S' (j + 1) (M + c) v1 (xs ++ [x]) (w6.setCell ⟨b, 3, none⟩ v1) := by
  obtain ⟨fr, cnt, box, ox, len, good, size, base, old, oldB⟩ := h
  have hs1 := fr.size
  have hs2 := hf.size
  have hg5 : Grew w5 (w5.alloc (.cells #[Kv x.kind, St x.text, vn, vp] 28)) := (Fr.refl _ _).alloc _
  have hox := (ox.kept hf (fun k e => by omega)).kept hg5 (fun _ e => e.elim)
  have hD : ∀ k, k < wr.heap.size → True := fun _ _ => trivial
  have hDv : ∀ k, Dv B vA k → k < wr.heap.size := fun k e => by
    rcases e with e | e
    · omega
    · exact (ox.lt e).2
  obtain ⟨v1, w6, hrun, hox6, hf6⟩ := hox.app (by simp; omega) (by omega) (heap_alloc_new w5 (.cells #[Kv x.kind, St x.text, vn, vp] 28)) ((hn.mono (fun b _ e => hDv b e)).grew hg5) ((hr.mono (fun b _ e => hDv b e)).grew hg5) ty
  have hf56 := (Grew.any (F := fun k => vA.ownBlock = some k) hg5).trans hf6 (fun _ _ e => e)
  have hown : ∀ k, k < B → ¬ vA.ownBlock = some k := fun k hk e => by have := (ox.lt e).1; omega
  have hsep : ∀ {k o}, w5.heap[k]? = some o → k < B → w6.heap[k]? = some o := fun hk hb => hf56.get hk (hown _ hb)
  have box5 := hf.get box (by omega)
  have box6 := hsep box5 hb1
  have hset : Fr (fun k => k = b) w6 (w6.setCell ⟨b, 3, none⟩ v1) := (Fr.refl (fun k => k = b) w6).setCell (p := ⟨b, 3, none⟩) (fun _ => rfl) v1
  obtain ⟨aa, ca, e, -⟩ := hox6.shape
  obtain ⟨N2, hm2, hN1, hN2⟩ := hm
  refine ⟨v1, w6, hrun, ⟨aa, _, ca, e⟩, cell_of_get box6 3, frozen_of_get box6 3, ⟨?_, ⟨N2, ?_, hN1, by omega⟩, ?_, hox6.kept hset (fun k e => by omega), by simp [len], ?_, ?_, ?_, ?_, oldB⟩⟩
  · exact ((fr.trans hf (fun _ _ e => e)).trans hf56 (fun k hk e => absurd e (hown k (by omega)))).trans hset (fun k hk e => by omega)
  · exact hset.get (hsep hm2 (by omega)) (by omega)
  · simp [World.setCell, Array.getElem?_modify, box6]
  · intro y hy
    rcases List.mem_append.1 hy with hy | hy
    · exact good y hy
    · rw [List.mem_singleton.1 hy]; exact hgd
  · rw [sizes_append]; simp only [sizes]; omega
  · have := hf56.size; have := hset.size; omega
  · exact ((old.trans hf (fun _ _ e => .inl e)).trans hf56 (fun k hk e => absurd e (hown k (by omega)))).trans hset (fun k hk e => .inr e)

def P8T (w' : World) (mb N0 b B : Nat) (Wo : World) (kd : Int) (t : Str) (vN : Value) (S' : List Str) (j M : Nat) (vA : Value) (v : Value) (w : World) : Prop :=
  ∃ xs, (∃ a m c, v = .slice a m c) ∧ w.cell? ⟨b, 3, none⟩ = some vA ∧ w.frozen? ⟨b, 3, none⟩ = false ∧ AT w' mb N0 b B Wo kd t vN S' (j + 1) M v xs (w.setCell ⟨b, 3, none⟩ v)

/-- the append, in Term -/
theorem P8T.of {w' Wo : World} {mb N0 N1 b B : Nat} {kd : Int} {t : Str} {vN : Value} {S' : List Str} {j M c : Nat} {vA : Value} {xs : List X} {wr : World}
    (h : AT w' mb N0 b B Wo kd t vN S' j M vA xs wr) (hmb : mb < w'.heap.size) (hb0 : w'.heap.size ≤ b) (hb1 : b < B) (hj : j ≤ 100) (hn1 : N0 ≤ N1) (hn2 : N1 ≤ N0 + M) {u : Value} {w : World} (h7 : P7 wr mb N1 c S' u w) (ty : TypeId) :
    ∃ v1 w6, (Builtin.append_ #[26, 26] ty #[vA, u]).run Try.prog w = .ok v1 w6 ∧ P8T w' mb N0 b B Wo kd t vN S' j (M + c) vA v1 w6 ∧ Fr (fun k => k = mb ∨ vA.ownBlock = some k) w w6 := by
  obtain ⟨x, vn, vp, w5, rfl, rfl, hx⟩ := h7
  obtain ⟨N2, hm2, hN1, hN2⟩ := hx.cnt
  have hg5 : Grew w5 (w5.alloc (.cells #[Kv x.kind, St x.text, vn, vp] 28)) := (Fr.refl _ _).alloc _
  obtain ⟨v1, w6, hrun, hsh, hc, hf, has⟩ := h.step hmb hb0 hb1 hx.fr hx.nm hx.row hx.good hx.size ⟨N2, hm2, by omega, by omega⟩ hj ty
  refine ⟨v1, w6, hrun, ⟨_, hsh, hc, hf, has⟩, ?_⟩
  obtain ⟨an, cn, e1, -⟩ := hx.nm.shape
  obtain ⟨ax, cx, e2, -⟩ := hx.row.shape
  have hox := (h.ox.kept hx.fr (fun k e => by have := h.fr.size; omega)).kept hg5 (fun _ e => e.elim)
  have hDv : ∀ k, Dv B vA k → k < wr.heap.size := fun k e => by
    have := h.base
    rcases e with e | e
    · omega
    · exact (h.ox.lt e).2
  have hl := h.len
  have hb := h.base
  have hs2 := hx.fr.size
  obtain ⟨v2, w7, hrun2, -, hf7⟩ := hox.app (by simp; omega) (by omega) (heap_alloc_new w5 (.cells #[Kv x.kind, St x.text, vn, vp] 28)) ((hx.nm.mono (fun b _ e => hDv b e)).grew hg5) ((hx.row.mono (fun b _ e => hDv b e)).grew hg5) ty
  rw [hrun2] at hrun
  cases hrun
  exact hf7.mono (fun _ _ e => .inr e)
end Go.Proofs.Ytddcfnjmppijjaa

/-! Term's names. -/
namespace Go.Proofs.Ytddcfnjmppijjaa
open Go.RowKit

/-- a let's block while its names are made -/
structure NT (W : World) (mb b i : Nat) (vN : Value) (wr : World) : Prop where
  keep : Fr (fun k => k = mb ∨ k = b) W wr
  cnt : Mk wr mb i
  box : wr.heap[b]? = some (.cells #[.int .i64 9, .string ⟨#[]⟩, vN, .slice none 0 0] 28 (0, 0))
  row : Rt W.heap.size wr vN (nms 0 i)

def N0 (wr : World) (mb i : Nat) (w : World) : Prop := Fr (fun k => k = mb) wr w ∧ Mk w mb i
def N6 (wr : World) (mb i : Nat) (v : Value) (w : World) : Prop := v = St (nam (i + 1)) ∧ Fr (fun k => k = mb) wr w ∧ Mk w mb (i + 1)
def N7 (wr : World) (mb i : Nat) (v : Value) (w : World) : Prop := ∃ w5, v = .slice (some ⟨w5.heap.size, 0, none⟩) 1 1 ∧ w = w5.alloc (.cells #[St (nam (i + 1))] 9) ∧ Fr (fun k => k = mb) wr w5 ∧ Mk w5 mb (i + 1)
def N8 (W : World) (mb b i : Nat) (vN : Value) (v : Value) (w : World) : Prop := (∃ a m c, v = .slice a m c) ∧ w.cell? ⟨b, 2, none⟩ = some vN ∧ w.frozen? ⟨b, 2, none⟩ = false ∧ NT W mb b (i + 1) v (w.setCell ⟨b, 2, none⟩ v)

theorem N8.of {W : World} {mb b i : Nat} {vN : Value} {wr : World} (h : NT W mb b i vN wr) (hb : b < W.heap.size) (hmb : mb < W.heap.size) (hne : mb ≠ b) (hi : i ≤ 100) {u : Value} {w : World} (h7 : N7 wr mb i u w) (ty : TypeId) :
    ∃ v1 w6, (Builtin.append_ #[25, 25] ty #[vN, u]).run Try.prog w = .ok v1 w6 ∧ N8 W mb b i vN v1 w6 ∧ Fr (fun k => k = mb ∨ vN.ownBlock = some k) w w6 := by
  obtain ⟨w2, rfl, rfl, hf, hm⟩ := h7
  obtain ⟨keep, cnt, box, row⟩ := h
  have hsW := keep.size
  have hmbN : ∀ g, vN.ownBlock = some g → ¬ g = mb := fun g hg e => by have := (row.lt g hg).1; omega
  have hs2 := hf.size
  have hN2 := rt_kept row hf hmbN
  have hg2 : Grew w2 (w2.alloc (.cells #[St (nam (i + 1))] 9)) := (Fr.refl _ _).alloc _
  obtain ⟨v1, w3, hr1, hn3, hf3, ho3⟩ := app_rt (rt_kept hN2 hg2 (fun _ _ f => f)) (by simp; omega) (nm_one w2 (nam (i + 1)) _ rfl) (by rw [nms_length]; simp; omega) ty
  have hg23 := (Grew.any (F := fun k => vN.ownBlock = some k) hg2).trans hf3 (fun _ _ e => e)
  have hbN : ¬ vN.ownBlock = some b := fun e => by have := (row.lt b e).1; omega
  have box3 := hg23.get (hf.get box (fun e => hne e.symm)) hbN
  have hset : Fr (fun k => k = b) w3 (w3.setCell ⟨b, 2, none⟩ v1) := (Fr.refl (fun k => k = b) w3).setCell (p := ⟨b, 2, none⟩) (fun _ => rfl) v1
  obtain ⟨a1, c1, e1, -⟩ := hn3.shape
  refine ⟨v1, w3, hr1, ⟨⟨a1, _, c1, e1⟩, cell_of_get box3 2, frozen_of_get box3 2, ?_, ?_, ?_, ?_⟩, hf3.mono (fun _ _ e => .inr e)⟩
  · exact ((keep.trans hf (fun _ _ e => .inl e)).trans hg23 (fun k hk e => by have := (row.lt k e).1; omega)).trans hset (fun _ _ e => .inr e)
  · exact hset.get (hg23.get hm (fun e => hmbN mb e rfl)) hne
  · simp [World.setCell, Array.getElem?_modify, box3]
  · rw [nms_succ, Nat.zero_add]
    exact rt_kept hn3 hset (fun g hg e => by have := (hn3.lt g hg).1; omega)

/-- what is made of the raw terms ahead -/
def TM (l : List RT) (j : Nat) : Nat := 8 * nodesL ((l.drop 1).take j)
theorem TM_succ (l : List RT) (j : Nat) (r : RT) (h : l[j + 1]? = some r) : TM l (j + 1) = TM l j + 8 * (1 + nodesL r.l) := by
  have h1 : (l.drop 1)[j]? = some r := by rw [List.getElem?_drop, Nat.add_comm]; exact h
  have := nodesL_take (l.drop 1) j r h1
  unfold TM; omega
theorem TM_le (x : RT) (r : List RT) (j : Nat) : TM (x :: r) j + 8 * (1 + nodesL x.l) ≤ 8 * nodesL (x :: r) := by
  have := nodesL_take_le r j
  have e := RT.nodes_eq x
  simp only [TM, List.drop_succ_cons, List.drop_zero, nodesL]
  omega

/-- what Term leaves -/
def TmPost (w : World) (l : List RT) (e : Ending) (w' : World) : Prop :=
  ∃ e' x, e = .returned e' ∧ Rd w' (fun b => b < w.heap.size) e' x ∧ Good [] x ∧ x.size ≤ 2 + 8 * nodesL l ∧ Grew w w'

theorem at_init {w W2 W3 wo : World} {q : Nat} {vN : Value} (_hg2 : Grew w W2) (hs2 : W2.heap.size = w.heap.size + 2) (hg3 : Grew W2 W3) (h : NT W3 (w.heap.size + 1) (w.heap.size + 1 + 1) q vN wo) :
    AT W2 (w.heap.size + 1) q (w.heap.size + 1 + 1) wo.heap.size wo 9 [] vN (nms 0 q) 0 0 (.slice none 0 0) [] wo :=
  ⟨(Grew.any (F := fun k => k = w.heap.size + 1) hg3).trans h.keep (fun k hk e => by rcases e with e | e <;> omega), ⟨q, h.cnt, Nat.le_refl _, by omega⟩, h.box, OX.nil _ _, rfl, fun x hx => by simp at hx, by simp [sizes], Nat.le_refl _, Fr.refl _ _, rfl⟩

theorem term_done {w W2 W3 wo w7 : World} {l : List RT} {q M B : Nat} {vN vA : Value} {xs : List X} (hg2 : Grew w W2) (_hs2 : W2.heap.size = w.heap.size + 2) (_hg3 : Grew W2 W3) (hs3 : W3.heap.size = w.heap.size + 3) (hnt : NT W3 (w.heap.size + 1) (w.heap.size + 1 + 1) q vN wo)
    (h : AT W2 (w.heap.size + 1) q (w.heap.size + 1 + 1) B wo 9 [] vN (nms 0 q) (q + 1) M vA xs w7) (hM : M ≤ 8 * nodesL l) (hq1 : 1 ≤ q) (hq2 : q ≤ 4) (u0 u1 u2 u3 : Value) :
    TmPost w l (.returned (.agg #[Kv 9, St [], vN, vA])) (set4 w7 w.heap.size u0 u1 u2 u3) := by
  have hk := hnt.keep.size
  have ho := h.old.size
  have hB := h.oldB
  have h4 := set4_fr w7 w.heap.size u0 u1 u2 u3
  have hN : Nm wo (fun b => b < W3.heap.size) vN (nms 0 q) := nm_of_rt hnt.row
  have hN7 : Nm w7 (fun b => b < W3.heap.size) vN (nms 0 q) := hN.kept h.old (fun b e => by rcases e with e | e <;> omega)
  have hR7 := h.ox.rows
  have hl := h.len
  refine ⟨_, .mk 9 [] (nms 0 q) xs, rfl, ⟨vN, vA, rfl, (hN7.kept h4 (fun b e => by omega)).mono (fun b _ e => by omega), ((hR7.mono (E := fun b => b < w.heap.size + 1) (fun b _ e => by omega)).kept h4 (fun b e => by omega)).mono (fun b _ e => by omega)⟩, ?_, ?_, ?_⟩
  · refine .lets [] (nms 0 q) xs (fun e => ?_) (by rw [nms_length]; omega) (nms_nodup _ _) (nms_ok _ _ (by omega)) (by rw [nms_length]; omega) (by simpa using h.good)
    have := congrArg List.length e
    rw [nms_length] at this
    simp at this; omega
  · have := h.size
    simp only [X.size]; omega
  · have h1 : Fr (fun k => k = w.heap.size + 1 ∨ k = w.heap.size) W2 (set4 w7 w.heap.size u0 u1 u2 u3) := (h.fr.mono (fun _ _ e => .inl e)).trans h4 (fun _ _ e => .inr e)
    exact hg2.trans h1 (fun k hk e => by rcases e with e | e <;> omega)

abbrev mkB : Obj := .cells #[.int .i64 0] 56
theorem cell_back {w5 : World} {b : Nat} {v : Value} {cs : Array Value} {t : TypeId} (hbox : (w5.setCell ⟨b, 3, none⟩ v).heap[b]? = some (.cells cs t (0, 0))) (i : Nat) (hi : i ≠ 3) {x : Value} (h : cs[i]? = some x) : w5.cell? ⟨b, i, none⟩ = some x :=
  ((World.cell?_setCell_other (w := w5) (a := ⟨b, 3, none⟩) (b := ⟨b, i, none⟩) (v := v) (by simp <;> omega)).symm.trans (cell_of_get hbox i)).trans h
end Go.Proofs.Ytddcfnjmppijjaa
