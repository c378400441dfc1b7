import Derived.Test.YtddcfnjmppijjaaR3
import Derived.Test.YtddcfnjmppijjaaN11
import Derived.Test.YtddcfnjmppijjaaA6
import Derived.BigRegion
/-! spoilt: a term with one thing of it turned. -/
namespace Go.Proofs.Ytddcfnjmppijjaa
open Go.RowKit

/-- a copy of one's own: w: the world at the beginning; w2: behind the copying; B1: where its parts' blocks begin -/
structure SpO (w w2 : World) (B1 : Nat) (ns : List Str) (a : List X) (vN vA : Value) : Prop where
  g2 : Grew w w2
  rt : Rt (w.heap.size + 2) w2 vN ns
  sep : ∀ g, vN.ownBlock = some g → g < B1
  ox : OX B1 w2 vA a
  b0 : w.heap.size + 2 ≤ B1
  b1 : B1 ≤ w2.heap.size
  res : w2.heap[w.heap.size + 1]? = some newB

section
variable {w w2 : World} {B1 cA : Nat} {aA : Option Addr} {ns : List Str} {a : List X} {vN vA : Value}
theorem SpO.names (h : SpO w w2 B1 ns a vN vA) {F : Nat → Prop} {W7 : World} (hF : Fr F w2 W7) (hB : ∀ c, F c → c < w.heap.size + 2 ∨ B1 ≤ c) : Nm W7 (fun c => c < w.heap.size + 2) vN ns := by
  have hn : Nm w2 (fun c => c < w.heap.size + 2 ∨ B1 ≤ c) vN ns := nm_of_rt' h.rt (fun g hg e => by
    have := h.sep g hg
    have := (h.rt.lt g hg).1
    omega)
  exact (hn.kept hF hB).mono (fun c _ e => .inl e)
theorem SpO.parts (h : SpO w w2 B1 ns a vN vA) {F : Nat → Prop} {W7 : World} (hF : Fr F w2 W7) (hB : ∀ c, F c → c < B1) : Row W7 (fun c => c < w.heap.size + 2) vA a := by
  have := h.b0
  exact (h.ox.rows.kept hF hB).mono (fun c _ e => by omega)
theorem SpO.old (h : SpO w w2 B1 ns a vN vA) {F : Nat → Prop} {W7 : World} (hF : Fr F w2 W7) (hB : ∀ c, F c → w.heap.size + 2 ≤ c) : Grew w W7 ∧ W7.heap[w.heap.size + 1]? = some newB :=
  ⟨h.g2.trans hF (fun c hc e => by have := hB c e; omega), hF.get h.res (fun e => by have := hB _ e; omega)⟩
/-- nothing but new blocks, and the result -/
theorem SpO.fin (h : SpO w w2 B1 ns a vN vA) {W8 : World} (hF : Fr (fun c => c = w.heap.size + 1) w2 W8) {k : Int} {t : Str} (hs : Smn 901 (.mk k t ns a)) : SpPost w (.returned (.agg #[Kv k, St t, vN, vA])) W8 := by
  have hn := h.names hF (fun c e => by omega)
  have hr := h.parts hF (fun c e => by have := h.b0; omega)
  exact ⟨_, .mk k t ns a, rfl, ⟨vN, vA, rfl, hn.mono (fun c _ e => by omega), hr.mono (fun c _ e => by omega)⟩, hs, h.g2.trans hF (fun c hc e => by omega)⟩
/-- .. a part less -/
theorem SpO.fin5 (h : SpO w w2 B1 ns a vN (.slice aA a.length cA)) (m : Nat) (hm : m ≤ a.length) {W8 : World} (hF : Fr (fun c => c = w.heap.size + 1) w2 W8) {k : Int} {t : Str} (hs : Smn 901 (.mk k t ns (a.take m))) : SpPost w (.returned (.agg #[Kv k, St t, vN, .slice aA m cA])) W8 := by
  have hn := h.names hF (fun c e => by omega)
  have hr := (h.parts hF (fun c e => by have := h.b0; omega)).take m hm
  exact ⟨_, .mk k t ns (a.take m), rfl, ⟨vN, _, rfl, hn.mono (fun c _ e => by omega), hr.mono (fun c _ e => by omega)⟩, hs, h.g2.trans hF (fun c hc e => by omega)⟩
/-- .. the second name another -/
theorem SpO.fin6 (h : SpO w w2 B1 ns a vN vA) {gN : Nat} {s0 : Str} {ms : List Str} (hg0 : w.heap.size + 2 ≤ gN) (hg1 : gN < B1) (hnm : Nm (w2.setCell ⟨gN, 1, none⟩ (St s0)) (fun c => c < w.heap.size + 2) vN ms) {W8 : World} (hF : Fr (fun c => c = w.heap.size + 1) (w2.setCell ⟨gN, 1, none⟩ (St s0)) W8) {k : Int} {t : Str} (hs : Smn 901 (.mk k t ms a)) :
    SpPost w (.returned (.agg #[Kv k, St t, vN, vA])) W8 := by
  have hset : Fr (fun c => c = gN) w2 (w2.setCell ⟨gN, 1, none⟩ (St s0)) := (Fr.refl (fun c => c = gN) w2).setCell (p := ⟨gN, 1, none⟩) (fun _ => rfl) _
  have hF2 : Fr (fun c => c = gN ∨ c = w.heap.size + 1) w2 W8 := (hset.mono (fun _ _ e => .inl e)).trans hF (fun _ _ e => .inr e)
  have hr := h.parts hF2 (fun c e => by have := h.b0; omega)
  have hn := hnm.kept hF (fun c e => by omega)
  exact ⟨_, .mk k t ms a, rfl, ⟨vN, vA, rfl, hn.mono (fun c _ e => by omega), hr.mono (fun c _ e => by omega)⟩, hs, h.g2.trans hF2 (fun c hc e => by omega)⟩
/-- .. a part another -/
theorem SpO.finR (h : SpO w w2 B1 ns a vN vA) {gA o : Nat} {u0 u1 u2 u3 : Value} {ys : List X} {w6 : World} (hg : Grew w2 w6) (hg0 : B1 ≤ gA) (hrow : Row (at4 w6 gA o u0 u1 u2 u3) (fun c => c < B1) vA ys) {W8 : World} (hF : Fr (fun c => c = w.heap.size + 1) (at4 w6 gA o u0 u1 u2 u3) W8) {k : Int} {t : Str} (hs : Smn 901 (.mk k t ns ys)) :
    SpPost w (.returned (.agg #[Kv k, St t, vN, vA])) W8 := by
  have h1 : Fr (fun c => c = gA ∨ c = w.heap.size + 1) w2 (at4 w6 gA o u0 u1 u2 u3) := (Grew.any hg).trans (at4_fr w6 gA o u0 u1 u2 u3) (fun _ _ e => .inl e)
  have hF2 : Fr (fun c => c = gA ∨ c = w.heap.size + 1) w2 W8 := h1.trans hF (fun _ _ e => .inr e)
  have hb0 := h.b0
  have hn := h.names hF2 (fun c e => by omega)
  have hr := hrow.kept hF (fun c e => by omega)
  exact ⟨_, .mk k t ns ys, rfl, ⟨vN, vA, rfl, hn.mono (fun c _ e => by omega), hr.mono (fun c _ e => by omega)⟩, hs, h.g2.trans hF2 (fun c hc e => by omega)⟩
theorem SpO.elem (h : SpO w w2 B1 ns a vN (.slice aA a.length cA)) {q : Nat} {x : X} (hx : a[q]? = some x) : ∃ gA an2 cn2 ax2 cx2, aA = some ⟨gA, 0, none⟩ ∧ B1 ≤ gA ∧ gA < w2.heap.size ∧ El w2 (fun c => c < B1) gA (q * 4) x an2 cn2 ax2 cx2 := by
  obtain ⟨fl, ho, -⟩ := h.ox.row
  have hq := (List.getElem?_eq_some_iff.1 hx).1
  rcases ho.2 with ⟨q1, q2⟩ | ⟨g, cap, cur, hv, hB, hg, -⟩
  · omega
  · simp only [Value.slice.injEq] at hv
    obtain ⟨rfl, -, rfl⟩ := hv
    obtain ⟨g', o', cap', e, -, -, -, hel⟩ := h.ox.rows.elems.resolve_left (fun e => by subst e; simp at hq)
    simp only [Value.slice.injEq, Option.some.injEq, Addr.mk.injEq] at e
    obtain ⟨⟨rfl, rfl, -⟩, -, -⟩ := e
    obtain ⟨an2, cn2, ax2, cx2, he⟩ := hel q x hx
    rw [Nat.zero_add] at he
    exact ⟨g, an2, cn2, ax2, cx2, rfl, hB, lt_of_get hg, he⟩
end

/-- a name more -/
theorem SpO.name {w w2 : World} {B1 : Nat} {ns : List Str} {a : List X} {vN vA : Value} (h : SpO w w2 B1 ns a vN vA) (hl : ns.length ≤ 900) (C : Array Value) (s : Str) (ty : TypeId) :
    ∃ v1 w6, (Builtin.append_ #[25, 25] ty #[vN, .slice (some ⟨w2.heap.size + 1, 0, none⟩) 1 1]).run Try.prog ((w2.alloc (.cells C 28)).alloc (.cells #[St s] 9)) = .ok v1 w6 ∧ (∃ a m c, v1 = .slice a m c) ∧ w6.heap[w2.heap.size]? = some (.cells C 28 (0, 0)) ∧ w6.heap[w.heap.size + 1]? = some newB ∧
      ∀ W8, Fr (fun c => c = w.heap.size + 1 ∨ c = w2.heap.size) w6 W8 → ∀ k t, Smn 901 (.mk k t (ns ++ [s]) a) → SpPost w (.returned (.agg #[Kv k, St t, v1, vA])) W8 := by
  have hg5 : Grew w2 ((w2.alloc (.cells C 28)).alloc (.cells #[St s] 9)) := ((Fr.refl _ _).alloc _).alloc _
  have hn1 := nm_one (w2.alloc (.cells C 28)) s _ rfl
  rw [show (w2.alloc (.cells C 28)).heap.size = w2.heap.size + 1 by simp] at hn1
  have hb0 := h.b0
  have hb1 := h.b1
  obtain ⟨v1, w6, hrun, hn3, hf6, ho3⟩ := app_rt (rt_kept h.rt hg5 (fun _ _ f => f)) (by simp; omega) hn1 (by simp; omega) ty
  obtain ⟨a1, c1, e1, -⟩ := hn3.shape
  have hf26 : Fr (fun c => vN.ownBlock = some c) w2 w6 := (Grew.any hg5).trans hf6 (fun _ _ e => e)
  have hown : ∀ g, vN.ownBlock = some g → w.heap.size + 2 ≤ g ∧ g < B1 := fun g hg => ⟨(h.rt.lt g hg).1, h.sep g hg⟩
  have hbx : ((w2.alloc (.cells C 28)).alloc (.cells #[St s] 9)).heap[w2.heap.size]? = some (.cells C 28 (0, 0)) := ((Fr.refl (fun _ => False) _).alloc _).get (heap_alloc_new w2 _) (fun f => f)
  refine ⟨v1, w6, hrun, ⟨a1, _, c1, e1⟩, hf6.get hbx (fun e => by have := hown _ e; omega), hf26.get h.res (fun e => by have := hown _ e; omega), fun W8 hF k t hs => ?_⟩
  have hF28 : Fr (fun c => vN.ownBlock = some c ∨ c = w.heap.size + 1) w2 W8 := (hf26.mono (fun _ _ e => .inl e)).trans hF (fun c hc e => by
    rcases e with e | e
    · exact .inr e
    · omega)
  have hr := h.parts hF28 (fun c e => by
    rcases e with e | e
    · exact (hown c e).2
    · omega)
  have hn : Nm w6 (fun c => c < w.heap.size + 2 ∨ c = w2.heap.size) v1 (ns ++ [s]) := nm_of_rt' hn3 (fun g hg e => by
    have hg1 := (hn3.lt g hg).1
    rcases ho3 g hg with q | q
    · have := hown g q; omega
    · simp at q; omega)
  have hn8 := hn.kept hF (fun c e => by omega)
  exact ⟨_, .mk k t (ns ++ [s]) a, rfl, ⟨v1, vA, rfl, hn8.mono (fun c _ e => by omega), hr.mono (fun c _ e => by omega)⟩, hs, h.g2.trans hF28 (fun c hc e => by
    rcases e with e | e
    · have := hown c e; omega
    · omega)⟩

/-- a part more -/
theorem SpO.part {w w2 : World} {B1 : Nat} {ns : List Str} {a : List X} {vN vA : Value} (h : SpO w w2 B1 ns a vN vA) (hl : a.length ≤ 900) (C : Array Value) (ty : TypeId) :
    ∃ v1 w6, (Builtin.append_ #[26, 26] ty #[vA, .slice (some ⟨w2.heap.size + 1, 0, none⟩) 1 1]).run Try.prog ((w2.alloc (.cells C 28)).alloc (.cells #[.int .i64 3, .string ⟨#[]⟩, .slice none 0 0, .slice none 0 0] 28)) = .ok v1 w6 ∧ (∃ a m c, v1 = .slice a m c) ∧ w6.heap[w2.heap.size]? = some (.cells C 28 (0, 0)) ∧ w6.heap[w.heap.size + 1]? = some newB ∧
      ∀ W8, Fr (fun c => c = w.heap.size + 1 ∨ c = w2.heap.size) w6 W8 → ∀ k t, Smn 901 (.mk k t ns (a ++ [.mk 3 [] [] []])) → SpPost w (.returned (.agg #[Kv k, St t, vN, v1])) W8 := by
  have hg5 : Grew w2 ((w2.alloc (.cells C 28)).alloc (.cells #[.int .i64 3, .string ⟨#[]⟩, .slice none 0 0, .slice none 0 0] 28)) := ((Fr.refl _ _).alloc _).alloc _
  have hb0 := h.b0
  have hb1 := h.b1
  obtain ⟨v1, w6, hrun, hsh, hf6, hown, hrow⟩ := ox_app_row h.ox hg5 hb1 (by omega) (b := w2.heap.size) (gu := w2.heap.size + 1) (Nat.le_refl _) (by omega) (heap_a2 _ _ _) ty
  have hf26 : Fr (fun c => vA.ownBlock = some c) w2 w6 := (Grew.any hg5).trans hf6 (fun _ _ e => e)
  have hbx : ((w2.alloc (.cells C 28)).alloc (.cells #[.int .i64 3, .string ⟨#[]⟩, .slice none 0 0, .slice none 0 0] 28)).heap[w2.heap.size]? = some (.cells C 28 (0, 0)) := ((Fr.refl (fun _ => False) _).alloc _).get (heap_alloc_new w2 _) (fun f => f)
  refine ⟨v1, w6, hrun, hsh, hf6.get hbx (fun e => by have := hown _ e; omega), hf26.get h.res (fun e => by have := hown _ e; omega), fun W8 hF k t hs => ?_⟩
  have hF28 : Fr (fun c => vA.ownBlock = some c ∨ c = w.heap.size + 1) w2 W8 := (hf26.mono (fun _ _ e => .inl e)).trans hF (fun c hc e => by
    rcases e with e | e
    · exact .inr e
    · omega)
  have hr := hrow _ W8 hF (fun c e => by omega)
  have hn := h.names hF28 (fun c e => by
    rcases e with e | e
    · exact .inr (hown c e).1
    · exact .inl (by omega))
  exact ⟨_, .mk k t ns (a ++ [.mk 3 [] [] []]), rfl, ⟨vN, v1, rfl, hn.mono (fun c _ e => by omega), hr.mono (fun c _ e => by omega)⟩, hs, h.g2.trans hF28 (fun c hc e => by
    rcases e with e | e
    · have := hown c e; omega
    · omega)⟩

abbrev tbl5 : Obj := .cells #[.string ⟨#[]⟩, .string ⟨#[120]⟩, .string ⟨#[43]⟩, .string ⟨#[35, 116]⟩, .string ⟨#[48, 48, 55]⟩] 9
theorem tbl5_cells (w : World) (o : Nat) (ho : o = w.heap.size) (k : Nat) (hk : k < 5) : ∃ s : Str, s.length ≤ 10 ∧ (w.alloc tbl5).cell? ⟨o, k, none⟩ = some (St s) := by
  subst ho
  rw [cell_of_get (heap_alloc_new w _)]
  match k, hk with
  | 0, _ => exact ⟨[], by decide, rfl⟩
  | 1, _ => exact ⟨[120], by decide, rfl⟩
  | 2, _ => exact ⟨[43], by decide, rfl⟩
  | 3, _ => exact ⟨[35, 116], by decide, rfl⟩
  | 4, _ => exact ⟨[48, 48, 55], by decide, rfl⟩

/-- what lies in the slot of the spoilt part -/
def F37 (W : World) (v : Value) (w : World) : Prop := ∃ (x' : X) (an : Option Addr) (cn : Nat) (ax : Option Addr) (cx : Nat), v = .agg #[Kv x'.kind, St x'.text, .slice an x'.names.length cn, .slice ax x'.parts.length cx] ∧ Nm w (fun c => c < W.heap.size) (.slice an x'.names.length cn) x'.names ∧ Row w (fun c => c < W.heap.size) (.slice ax x'.parts.length cx) x'.parts ∧ Smn 901 x'
theorem F37.stays (W : World) (v : Value) (w w' : World) (h : Grew w w') (k : F37 W v w) : F37 W v w' := by
  obtain ⟨x', an, cn, ax, cx, e, h1, h2, h3⟩ := k
  exact ⟨x', an, cn, ax, cx, e, h1.grew h, h2.grew h, h3⟩
theorem F37.of {W w w' : World} {e : Ending} (hg : Grew W w) (h : SpPost w e w') : ∃ v, e = .returned v ∧ F37 W v w' ∧ Grew w w' := by
  obtain ⟨e', x', rfl, ⟨vn, va, rfl, h1, h2⟩, h3, h4⟩ := h
  obtain ⟨an, cn, rfl, -⟩ := h1.shape
  obtain ⟨ax, cx, rfl, -⟩ := h2.shape
  have := hg.size
  exact ⟨_, rfl, ⟨x', an, cn, ax, cx, rfl, h1.mono (fun c _ e => by omega), h2.mono (fun c _ e => by omega), h3⟩, h4⟩

/-- what a copying leaves, of a term of these parts -/
theorem copied {w : World} {D : Nat → Prop} {k : Int} {t : Str} {ns : List Str} {a : List X} {vn va : Value} (hx : Smn 900 (.mk k t ns a)) (hn : Nm w D vn ns) (hr : Row w D va a) (o1 : Obj) :
    Calls Try.prog 57 #[.agg #[Kv k, St t, vn, va]] ((w.alloc o1).alloc newB) fun e w2 => ∃ aN cN aA cA B1, e = .returned (.agg #[Kv k, St t, .slice aN ns.length cN, .slice aA a.length cA]) ∧ SpO w w2 B1 ns a (.slice aN ns.length cN) (.slice aA a.length cA) ∧ a.length ≤ cA ∧ cA ≤ 9223372036854775807 := by
  have hg : Grew w ((w.alloc o1).alloc newB) := ((Fr.refl _ _).alloc _).alloc _
  have hs : ((w.alloc o1).alloc newB).heap.size = w.heap.size + 2 := by simp
  have hres := heap_a2 w o1 newB
  refine (copy_any (x := .mk k t ns a) ⟨vn, va, rfl, hn.grew hg, hr.grew hg⟩ hx).mono ?_
  rintro e w2 ⟨e', rfl, -, hg2, vN, vA, B1, rfl, hB1, hrt, hsep, hox, hB2⟩
  obtain ⟨aN, cN, rfl, -⟩ := hrt.shape
  obtain ⟨aA, cA, rfl, hA1, hA2⟩ := hox.shape
  rw [hs] at hB1 hrt
  exact ⟨aN, cN, aA, cA, B1, rfl, ⟨hg.trans hg2 (fun _ _ f => f), hrt, hsep, hox, hB1, hB2, hg2.get hres (fun f => f)⟩, hA1, hA2⟩

set_option maxHeartbeats 16000000 in
set_option maxRecDepth 100000 in
theorem spoilt_any {x : X} (hx : Smn 900 x) : ∀ {w : World} {D : Nat → Prop} {e : Value} (_ : Rd w D e x) (n by_ : Int), Calls Try.prog 33 #[e, .int .i64 n, .int .i64 by_] w (SpPost w) := by
  induction hx with
  | mk k t ns a ht hnl ha hs ih =>
    intro w D e h n by_
    obtain ⟨vn, va, rfl, hnm, hrw⟩ := h
    have hcp := copied (.mk k t ns a ht hnl ha hs) hnm hrw (.cells #[Kv k, St t, vn, va] 28)
    obtain ⟨an, cn, rfl, -⟩ := hnm.shape
    obtain ⟨aa, ca, rfl, -⟩ := hrw.shape
    simp only [X.names, X.parts, X.kind, X.text] at *
    have HS := hid hs
    have HIH := hid ih
    clear hnm hrw hs ih
    obtain ⟨k3, hk3, -, h3⟩ := place5 n 3 (by omega) (by omega) _ rfl
    obtain ⟨k7, hk7, -, h7⟩ := place5 by_ 7 (by omega) (by omega) _ rfl
    replace h3 : ∀ W, Calls Try.prog 38 #[.int .i64 n, .int .i64 3] W fun e w' => e = .returned (Kv k3) ∧ W = w' := h3
    replace h7 : ∀ W, Calls Try.prog 38 #[.int .i64 by_, .int .i64 7] W fun e w' => e = .returned (Kv k7) ∧ W = w' := h7
    by_cases hrec : 0 < a.length ∧ 0 < k3
    · obtain ⟨hl, hk30⟩ := hrec
      have hk31 : (0 : Int) < k3 := by omega
      have hl1 : (0 : Int) < a.length := by omega
      have hlen : ∀ (b : Int) W, Calls Try.prog 38 #[.int .i64 b, .int .i64 a.length] W fun e w' => ∃ q : Nat, q < a.length ∧ e = .returned (Kv q) ∧ W = w' := fun b W => wn a.length hl (by omega) b W
      go_enter Try.func33, Try.ntmps33
      go_wp2_with (first | (go_at_call 57; (with_reducible refine hcp.mono ?_); rintro e w2 ⟨aN, cN, aA, cA, B1, rfl, hsp, hA1, hA2⟩; have HSP := hid hsp; have g0 := frozen_of_get hsp.res 0; have g1 := frozen_of_get hsp.res 1; have g2 := frozen_of_get hsp.res 2; have g3 := frozen_of_get hsp.res 3; have r0 := cell_of_get hsp.res 0; have r1 := cell_of_get hsp.res 1; have r2 := cell_of_get hsp.res 2; have r3 := cell_of_get hsp.res 3; have hne : w.heap.size + 1 < w2.heap.size := (by have q1 := hsp.b0; have q2 := hsp.b1; omega); have hne2 : w.heap.size < w2.heap.size := (by omega); have hne3 : ¬ w.heap.size = w2.heap.size := (by omega); clear hsp hcp) | (go_at_call 38; (with_reducible refine (h3 _).mono ?_); rintro e w4 ⟨rfl, rfl⟩; clear h3) | (go_at_call 38; (with_reducible refine (hlen _ _).mono ?_); rintro e w4 ⟨q, hq, rfl, rfl⟩; clear hlen))
      obtain ⟨x, hx⟩ := at_of_lt hq
      obtain ⟨gA, an2, cn2, ax2, cx2, rfl, hgB, hgl, he⟩ := HSP.out.elem hx
      obtain ⟨W3, hW3⟩ : ∃ z : World, z = w2.alloc (.cells #[Kv k, St t, .slice aN ns.length cN, .slice (some ⟨gA, 0, none⟩) a.length cA] 28) := ⟨_, rfl⟩
      have hg23 : Grew w2 W3 := by rw [hW3]; exact (Fr.refl _ _).alloc _
      have HBX := hid (show W3.heap[w2.heap.size]? = some (.cells #[Kv k, St t, .slice aN ns.length cN, .slice (some ⟨gA, 0, none⟩) a.length cA] 28 (0, 0)) by rw [hW3]; exact heap_alloc_new _ _)
      have HB3 := hid (cell_of_get HBX.out 3 : W3.cell? ⟨w2.heap.size, 3, none⟩ = some (.slice (some ⟨gA, 0, none⟩) a.length cA))
      have HCC := hid (And.intro (hg23.cell he.c0 (fun f => f)) (And.intro (hg23.cell he.c1 (fun f => f)) (And.intro (hg23.cell he.c2 (fun f => f)) (hg23.cell he.c3 (fun f => f)))))
      have HCALL := hid (fun (W : World) (hS : Grew W3 W) => HIH.out x (List.mem_of_getElem? hx) (w := W) (D := fun c => c < B1) ⟨_, _, rfl, he.nm.grew (hg23.trans hS (fun _ _ f => f)), he.row.grew (hg23.trans hS (fun _ _ f => f))⟩ (IntKind.i64.wrap (n.tdiv 7)) by_)
      have HG23 := hid hg23
      have HSZ := hid (show W3.heap.size = w2.heap.size + 1 by rw [hW3]; simp)
      have hq1 : q < a.length := hq
      have hq2 : (q : Int) < a.length := by omega
      clear he hx hg23
      rw [← hW3]
      clear hW3
      refine Rg.wp_region_facts 13 Grew [(26, Rg.Ex (.pointer (some ⟨w2.heap.size, 3, none⟩))), (27, Rg.Ex (.slice (some ⟨gA, 0, none⟩) a.length cA)), (28, Rg.Ex (.int .i64 q)), (29, Rg.Ex (.pointer (some ⟨w2.heap.size, 3, none⟩))), (30, Rg.Ex (.slice (some ⟨gA, 0, none⟩) a.length cA)), (31, Rg.Ex (.int .i64 q)), (32, Rg.Ex (.pointer (some ⟨gA, q * 4, none⟩))), (33, Rg.Ex (.agg #[Kv x.kind, St x.text, .slice an2 x.names.length cn2, .slice ax2 x.parts.length cx2])), (34, Rg.Ex (.int .i64 n)), (35, Rg.Ex (.int .i64 (IntKind.i64.wrap (n.tdiv 7)))), (36, Rg.Ex (.int .i64 by_)), (37, F37 W3), (38, Rg.Ex (.pointer (some ⟨gA, q * 4, none⟩)))] (by kernel_rfl) (by kernel_rfl) (by rfl) (by rfl)
        (fun a => Fr.refl _ a) (fun a b c h k => h.trans k (fun _ _ f => f)) (Fr.refl _ _).drew
        (Rg.Stays.all ⟨Rg.Ex.stays _, Rg.Ex.stays _, Rg.Ex.stays _, Rg.Ex.stays _, Rg.Ex.stays _, Rg.Ex.stays _, Rg.Ex.stays _, Rg.Ex.stays _, Rg.Ex.stays _, Rg.Ex.stays _, Rg.Ex.stays _, F37.stays W3, Rg.Ex.stays _, trivial⟩) ?_ ?_
      · go_light
        refine Rg.OpGoals.cons (Rg.OpGoal.plain rfl ?_) (Rg.OpGoals.cons (Rg.OpGoal.plain rfl ?_) (Rg.OpGoals.cons (Rg.OpGoal.plain rfl ?_) (Rg.OpGoals.cons (Rg.OpGoal.plain rfl ?_) (Rg.OpGoals.cons (Rg.OpGoal.plain rfl ?_) (Rg.OpGoals.cons (Rg.OpGoal.plain rfl ?_) (Rg.OpGoals.cons (Rg.OpGoal.plain rfl ?_) (Rg.OpGoals.cons (Rg.OpGoal.plain rfl ?_) (Rg.OpGoals.cons (Rg.OpGoal.plain rfl ?_) (Rg.OpGoals.cons (Rg.OpGoal.plain rfl ?_) (Rg.OpGoals.cons (Rg.OpGoal.plain rfl ?_) (Rg.OpGoals.cons (Rg.OpGoal.plain rfl ?_) (Rg.OpGoals.cons (Rg.OpGoal.plain rfl ?_) Rg.OpGoals.none))))))))))))
        all_goals (intro a' w' hS hR; simp [Rg.Rd, Op.operands, Call.operands, Rg.Fk, Rg.Ex] at hR)
        all_goals (have b3' := hS.cell HB3.out (fun f => f))
        all_goals (have c0' := hS.cell HCC.out.1 (fun f => f))
        all_goals (have c1' := hS.cell HCC.out.2.1 (fun f => f))
        all_goals (have c2' := hS.cell HCC.out.2.2.1 (fun f => f))
        all_goals (have c3' := hS.cell HCC.out.2.2.2 (fun f => f))
        all_goals try (simp [Rg.Yields, execOp, Act.eval, hR, b3', c0', c1', c2', c3', hq2, go_sem, Rg.Fk, Rg.Ex, Fr.refl]; done)
        · simp [Rg.Yields, Act.eval, hR, go_sem, Rg.Fk, Rg.Ex]
          refine (HCALL.out _ hS).mono ?_
          intro e w5 hp
          obtain ⟨v, rfl, h6, h7⟩ := F37.of hS hp
          exact ⟨v, rfl, h6, h7⟩
      · intro w6 hS
        rintro _ rfl _ rfl _ rfl _ rfl _ rfl _ rfl _ rfl _ rfl _ rfl _ rfl _ rfl v37 h37 _ rfl
        refine Rg.Then.nil ?_
        obtain ⟨x', an3, cn3, ax3, cx3, rfl, hn3, hr3, hs3⟩ := h37
        have hg26 : Grew w2 w6 := HG23.out.trans hS (fun _ _ f => f)
        have hsz3 := HSZ.out
        obtain ⟨hcells, -, -, hrow⟩ := ox_set_row HSP.out.ox hg26 hq1 (hn3.mono (fun c _ e => by omega)) (hr3.mono (fun c _ e => by omega))
        obtain ⟨z0, d0, y0⟩ := hcells 0 (by omega)
        obtain ⟨z1, d1, y1⟩ := hcells 1 (by omega)
        obtain ⟨z2, d2, y2⟩ := hcells 2 (by omega)
        obtain ⟨z3, d3, y3⟩ := hcells 3 (by omega)
        rw [Nat.add_zero] at z0 y0
        have hb6 := hS.get HBX.out (fun f => f)
        have e0 := cell_of_get hb6 0
        have e1 := cell_of_get hb6 1
        have e2 := cell_of_get hb6 2
        have e3 := cell_of_get hb6 3
        have hr6 := hg26.get HSP.out.res (fun f => f)
        have p0 := cell_of_get hr6 0
        have p1 := cell_of_get hr6 1
        have p2 := cell_of_get hr6 2
        have p3 := cell_of_get hr6 3
        have pf0 := frozen_of_get hr6 0
        have pf1 := frozen_of_get hr6 1
        have pf2 := frozen_of_get hr6 2
        have pf3 := frozen_of_get hr6 3
        have hgb : ¬ gA = w2.heap.size := by omega
        have hgr : ¬ gA = w.heap.size + 1 := by have := HSP.out.b0; omega
        have HROW := hid hrow
        have HR6 := hid hr6
        have HG26 := hid hg26
        have HS3 := hid hs3
        clear hS hn3 hr3 hg26 hcells hrow hb6 hr6 hs3
        go_wp2
        refine bodyPost_ret (res28 Try.results33 _ _ (w.heap.size + 1) rfl (set4_heap ((at4_fr w6 gA (q * 4) _ _ _ _).get HR6.out (by omega)) _ _ _ _)) rfl ?_
        exact HSP.out.finR HG26.out hgB HROW.out (set4_fr _ _ _ _ _ _) (.mk _ _ _ _ (by omega) (by omega) (by simp; omega) (fun y hy => (List.mem_or_eq_of_mem_set hy).elim (fun e => (HS.out y e).up (by omega)) (fun e => by rw [e]; exact HS3.out)))
    · have hcase : a = [] ∨ (0 < a.length ∧ k3 = 0) := by
        rcases Nat.eq_zero_or_pos a.length with q | q
        · exact .inl (List.eq_nil_of_length_eq_zero q)
        · exact .inr ⟨q, by omega⟩
      have h13 : ∀ (b : Int) W, Calls Try.prog 38 #[.int .i64 b, .int .i64 13] W fun e w' => ∃ q : Nat, q < 13 ∧ e = .returned (Kv q) ∧ W = w' := fun b W => wn 13 (by omega) (by omega) b W
      have h5 : ∀ (b : Int) W, Calls Try.prog 38 #[.int .i64 b, .int .i64 5] W fun e w' => ∃ q : Nat, q < 5 ∧ e = .returned (Kv q) ∧ W = w' := fun b W => wn 5 (by omega) (by omega) b W
      obtain rfl | rfl | rfl | rfl | rfl | rfl | rfl : k7 = 0 ∨ k7 = 1 ∨ k7 = 2 ∨ k7 = 3 ∨ k7 = 4 ∨ k7 = 5 ∨ k7 = 6 := by omega
      · obtain rfl | ⟨hl, rfl⟩ := hcase
        · simp only [List.length_nil] at *
          go_enter Try.func33, Try.ntmps33
          go_wp2_with (first | (go_at_call 57; (with_reducible refine hcp.mono ?_); rintro e w2 ⟨aN, cN, aA, cA, B1, rfl, hsp, hA1, hA2⟩; have HSP := hid hsp; have g0 := frozen_of_get hsp.res 0; have g1 := frozen_of_get hsp.res 1; have g2 := frozen_of_get hsp.res 2; have g3 := frozen_of_get hsp.res 3; have r0 := cell_of_get hsp.res 0; have r1 := cell_of_get hsp.res 1; have r2 := cell_of_get hsp.res 2; have r3 := cell_of_get hsp.res 3; have hne : w.heap.size + 1 < w2.heap.size := (by have q1 := hsp.b0; have q2 := hsp.b1; omega); have hne2 : w.heap.size < w2.heap.size := (by omega); have hne3 : ¬ w.heap.size = w2.heap.size := (by omega); clear hsp hcp) | (go_at_call 38; (with_reducible refine (h3 _).mono ?_); rintro e w4 ⟨rfl, rfl⟩) | (go_at_call 38; (with_reducible refine (h7 _).mono ?_); rintro e w4 ⟨rfl, rfl⟩) | (go_at_call 38; (with_reducible refine (h13 _ _).mono ?_); rintro e w4 ⟨q, hq, rfl, rfl⟩))
          refine bodyPost_ret (res28 Try.results33 _ _ (w.heap.size + 1) rfl (((Fr.refl (fun _ => False) _).alloc _).get (set4_heap HSP.out.res _ _ _ _) (fun f => f))) rfl ?_
          exact HSP.out.fin ((set4_fr _ _ _ _ _ _).alloc _) (.mk _ _ _ _ (by omega) (by omega) (by first | omega | simp) (fun y hy => (HS.out y hy).up (by omega)))
        · go_enter Try.func33, Try.ntmps33
          go_wp2_with (first | (go_at_call 57; (with_reducible refine hcp.mono ?_); rintro e w2 ⟨aN, cN, aA, cA, B1, rfl, hsp, hA1, hA2⟩; have HSP := hid hsp; have g0 := frozen_of_get hsp.res 0; have g1 := frozen_of_get hsp.res 1; have g2 := frozen_of_get hsp.res 2; have g3 := frozen_of_get hsp.res 3; have r0 := cell_of_get hsp.res 0; have r1 := cell_of_get hsp.res 1; have r2 := cell_of_get hsp.res 2; have r3 := cell_of_get hsp.res 3; have hne : w.heap.size + 1 < w2.heap.size := (by have q1 := hsp.b0; have q2 := hsp.b1; omega); have hne2 : w.heap.size < w2.heap.size := (by omega); have hne3 : ¬ w.heap.size = w2.heap.size := (by omega); clear hsp hcp) | (go_at_call 38; (with_reducible refine (h3 _).mono ?_); rintro e w4 ⟨rfl, rfl⟩) | (go_at_call 38; (with_reducible refine (h7 _).mono ?_); rintro e w4 ⟨rfl, rfl⟩) | (go_at_call 38; (with_reducible refine (h13 _ _).mono ?_); rintro e w4 ⟨q, hq, rfl, rfl⟩))
          refine bodyPost_ret (res28 Try.results33 _ _ (w.heap.size + 1) rfl (((Fr.refl (fun _ => False) _).alloc _).get (set4_heap HSP.out.res _ _ _ _) (fun f => f))) rfl ?_
          exact HSP.out.fin ((set4_fr _ _ _ _ _ _).alloc _) (.mk _ _ _ _ (by omega) (by omega) (by first | omega | simp) (fun y hy => (HS.out y hy).up (by omega)))
      · obtain rfl | ⟨hl, rfl⟩ := hcase
        · simp only [List.length_nil] at *
          go_enter Try.func33, Try.ntmps33
          go_wp2_with (first | (go_at_call 57; (with_reducible refine hcp.mono ?_); rintro e w2 ⟨aN, cN, aA, cA, B1, rfl, hsp, hA1, hA2⟩; have HSP := hid hsp; have g0 := frozen_of_get hsp.res 0; have g1 := frozen_of_get hsp.res 1; have g2 := frozen_of_get hsp.res 2; have g3 := frozen_of_get hsp.res 3; have r0 := cell_of_get hsp.res 0; have r1 := cell_of_get hsp.res 1; have r2 := cell_of_get hsp.res 2; have r3 := cell_of_get hsp.res 3; have hne : w.heap.size + 1 < w2.heap.size := (by have q1 := hsp.b0; have q2 := hsp.b1; omega); have hne2 : w.heap.size < w2.heap.size := (by omega); have hne3 : ¬ w.heap.size = w2.heap.size := (by omega); clear hsp hcp) | (go_at_call 38; (with_reducible refine (h3 _).mono ?_); rintro e w4 ⟨rfl, rfl⟩) | (go_at_call 38; (with_reducible refine (h7 _).mono ?_); rintro e w4 ⟨rfl, rfl⟩) | (go_at_call 38; (with_reducible refine (h5 _ _).mono ?_); rintro e w4 ⟨q, hq, rfl, rfl⟩; obtain ⟨s5, hs5, hc5⟩ := tbl5_cells (w2.alloc (.cells #[Kv k, St t, .slice aN ns.length cN, .slice aA 0 cA] 28)) (w2.heap.size + 1) (by simp) q hq))
          refine bodyPost_ret (res28 Try.results33 _ _ (w.heap.size + 1) rfl ((((Fr.refl (fun _ => False) _).alloc _).alloc _).get (set4_heap HSP.out.res _ _ _ _) (fun f => f))) rfl ?_
          exact HSP.out.fin (((set4_fr _ _ _ _ _ _).alloc _).alloc _) (.mk _ _ _ _ (by omega) (by omega) (by first | omega | simp) (fun y hy => (HS.out y hy).up (by omega)))
        · go_enter Try.func33, Try.ntmps33
          go_wp2_with (first | (go_at_call 57; (with_reducible refine hcp.mono ?_); rintro e w2 ⟨aN, cN, aA, cA, B1, rfl, hsp, hA1, hA2⟩; have HSP := hid hsp; have g0 := frozen_of_get hsp.res 0; have g1 := frozen_of_get hsp.res 1; have g2 := frozen_of_get hsp.res 2; have g3 := frozen_of_get hsp.res 3; have r0 := cell_of_get hsp.res 0; have r1 := cell_of_get hsp.res 1; have r2 := cell_of_get hsp.res 2; have r3 := cell_of_get hsp.res 3; have hne : w.heap.size + 1 < w2.heap.size := (by have q1 := hsp.b0; have q2 := hsp.b1; omega); have hne2 : w.heap.size < w2.heap.size := (by omega); have hne3 : ¬ w.heap.size = w2.heap.size := (by omega); clear hsp hcp) | (go_at_call 38; (with_reducible refine (h3 _).mono ?_); rintro e w4 ⟨rfl, rfl⟩) | (go_at_call 38; (with_reducible refine (h7 _).mono ?_); rintro e w4 ⟨rfl, rfl⟩) | (go_at_call 38; (with_reducible refine (h5 _ _).mono ?_); rintro e w4 ⟨q, hq, rfl, rfl⟩; obtain ⟨s5, hs5, hc5⟩ := tbl5_cells (w2.alloc (.cells #[Kv k, St t, .slice aN ns.length cN, .slice aA a.length cA] 28)) (w2.heap.size + 1) (by simp) q hq))
          refine bodyPost_ret (res28 Try.results33 _ _ (w.heap.size + 1) rfl ((((Fr.refl (fun _ => False) _).alloc _).alloc _).get (set4_heap HSP.out.res _ _ _ _) (fun f => f))) rfl ?_
          exact HSP.out.fin (((set4_fr _ _ _ _ _ _).alloc _).alloc _) (.mk _ _ _ _ (by omega) (by omega) (by first | omega | simp) (fun y hy => (HS.out y hy).up (by omega)))
      · obtain rfl | ⟨hl, rfl⟩ := hcase
        · simp only [List.length_nil] at *
          go_enter Try.func33, Try.ntmps33
          go_wp2_with (first | (go_at_call 57; (with_reducible refine hcp.mono ?_); rintro e w2 ⟨aN, cN, aA, cA, B1, rfl, hsp, hA1, hA2⟩; have HSP := hid hsp; have g0 := frozen_of_get hsp.res 0; have g1 := frozen_of_get hsp.res 1; have g2 := frozen_of_get hsp.res 2; have g3 := frozen_of_get hsp.res 3; have r0 := cell_of_get hsp.res 0; have r1 := cell_of_get hsp.res 1; have r2 := cell_of_get hsp.res 2; have r3 := cell_of_get hsp.res 3; have hne : w.heap.size + 1 < w2.heap.size := (by have q1 := hsp.b0; have q2 := hsp.b1; omega); have hne2 : w.heap.size < w2.heap.size := (by omega); have hne3 : ¬ w.heap.size = w2.heap.size := (by omega); obtain ⟨v1, w6, hrun, ⟨a6, m6, c6, rfl⟩, hb6, hr6, hpost⟩ := hsp.name (by omega) #[Kv k, St t, .slice aN ns.length cN, .slice aA 0 cA] [118, 46, 49] 25; have HRUN := hid hrun; have HR6 := hid hr6; have HPOST := hid hpost; have e0 := cell_of_get hb6 0; have e1 := cell_of_get hb6 1; have e2 := cell_of_get hb6 2; have e3 := cell_of_get hb6 3; have ef := frozen_of_get hb6 2; have p0 := cell_of_get hr6 0; have p1 := cell_of_get hr6 1; have p2 := cell_of_get hr6 2; have p3 := cell_of_get hr6 3; have pf0 := frozen_of_get hr6 0; have pf1 := frozen_of_get hr6 1; have pf2 := frozen_of_get hr6 2; have pf3 := frozen_of_get hr6 3; clear hrun hb6 hr6 hpost; clear hsp hcp) | (go_at_call 38; (with_reducible refine (h3 _).mono ?_); rintro e w4 ⟨rfl, rfl⟩) | (go_at_call 38; (with_reducible refine (h7 _).mono ?_); rintro e w4 ⟨rfl, rfl⟩) | (at_builtin; refine wpList_app rfl rfl rfl rfl HRUN.out ?_; clear HRUN))
          refine bodyPost_ret (res28 Try.results33 _ _ (w.heap.size + 1) rfl (set4_heap (((Fr.refl (fun c => c = w2.heap.size) w6).setCell (p := ⟨w2.heap.size, 2, none⟩) (fun _ => rfl) _).get HR6.out (by omega)) _ _ _ _)) rfl ?_
          exact HPOST.out _ (((Fr.refl (fun c => c = w.heap.size + 1 ∨ c = w2.heap.size) w6).setCell (p := ⟨w2.heap.size, 2, none⟩) (fun _ => .inr rfl) _).trans (set4_fr _ _ _ _ _ _) (fun _ _ e => .inl e)) _ _ (.mk _ _ _ _ (by omega) (by simp <;> omega) (by first | omega | simp) (fun y hy => (HS.out y hy).up (by omega)))
        · go_enter Try.func33, Try.ntmps33
          go_wp2_with (first | (go_at_call 57; (with_reducible refine hcp.mono ?_); rintro e w2 ⟨aN, cN, aA, cA, B1, rfl, hsp, hA1, hA2⟩; have HSP := hid hsp; have g0 := frozen_of_get hsp.res 0; have g1 := frozen_of_get hsp.res 1; have g2 := frozen_of_get hsp.res 2; have g3 := frozen_of_get hsp.res 3; have r0 := cell_of_get hsp.res 0; have r1 := cell_of_get hsp.res 1; have r2 := cell_of_get hsp.res 2; have r3 := cell_of_get hsp.res 3; have hne : w.heap.size + 1 < w2.heap.size := (by have q1 := hsp.b0; have q2 := hsp.b1; omega); have hne2 : w.heap.size < w2.heap.size := (by omega); have hne3 : ¬ w.heap.size = w2.heap.size := (by omega); obtain ⟨v1, w6, hrun, ⟨a6, m6, c6, rfl⟩, hb6, hr6, hpost⟩ := hsp.name (by omega) #[Kv k, St t, .slice aN ns.length cN, .slice aA a.length cA] [118, 46, 49] 25; have HRUN := hid hrun; have HR6 := hid hr6; have HPOST := hid hpost; have e0 := cell_of_get hb6 0; have e1 := cell_of_get hb6 1; have e2 := cell_of_get hb6 2; have e3 := cell_of_get hb6 3; have ef := frozen_of_get hb6 2; have p0 := cell_of_get hr6 0; have p1 := cell_of_get hr6 1; have p2 := cell_of_get hr6 2; have p3 := cell_of_get hr6 3; have pf0 := frozen_of_get hr6 0; have pf1 := frozen_of_get hr6 1; have pf2 := frozen_of_get hr6 2; have pf3 := frozen_of_get hr6 3; clear hrun hb6 hr6 hpost; clear hsp hcp) | (go_at_call 38; (with_reducible refine (h3 _).mono ?_); rintro e w4 ⟨rfl, rfl⟩) | (go_at_call 38; (with_reducible refine (h7 _).mono ?_); rintro e w4 ⟨rfl, rfl⟩) | (at_builtin; refine wpList_app rfl rfl rfl rfl HRUN.out ?_; clear HRUN))
          refine bodyPost_ret (res28 Try.results33 _ _ (w.heap.size + 1) rfl (set4_heap (((Fr.refl (fun c => c = w2.heap.size) w6).setCell (p := ⟨w2.heap.size, 2, none⟩) (fun _ => rfl) _).get HR6.out (by omega)) _ _ _ _)) rfl ?_
          exact HPOST.out _ (((Fr.refl (fun c => c = w.heap.size + 1 ∨ c = w2.heap.size) w6).setCell (p := ⟨w2.heap.size, 2, none⟩) (fun _ => .inr rfl) _).trans (set4_fr _ _ _ _ _ _) (fun _ _ e => .inl e)) _ _ (.mk _ _ _ _ (by omega) (by simp <;> omega) (by first | omega | simp) (fun y hy => (HS.out y hy).up (by omega)))
      · obtain rfl | ⟨hl, rfl⟩ := hcase
        · simp only [List.length_nil] at *
          go_enter Try.func33, Try.ntmps33
          go_wp2_with (first | (go_at_call 57; (with_reducible refine hcp.mono ?_); rintro e w2 ⟨aN, cN, aA, cA, B1, rfl, hsp, hA1, hA2⟩; have HSP := hid hsp; have g0 := frozen_of_get hsp.res 0; have g1 := frozen_of_get hsp.res 1; have g2 := frozen_of_get hsp.res 2; have g3 := frozen_of_get hsp.res 3; have r0 := cell_of_get hsp.res 0; have r1 := cell_of_get hsp.res 1; have r2 := cell_of_get hsp.res 2; have r3 := cell_of_get hsp.res 3; have hne : w.heap.size + 1 < w2.heap.size := (by have q1 := hsp.b0; have q2 := hsp.b1; omega); have hne2 : w.heap.size < w2.heap.size := (by omega); have hne3 : ¬ w.heap.size = w2.heap.size := (by omega); obtain ⟨v1, w6, hrun, ⟨a6, m6, c6, rfl⟩, hb6, hr6, hpost⟩ := hsp.name (by omega) #[Kv k, St t, .slice aN ns.length cN, .slice aA 0 cA] [] 25; have HRUN := hid hrun; have HR6 := hid hr6; have HPOST := hid hpost; have e0 := cell_of_get hb6 0; have e1 := cell_of_get hb6 1; have e2 := cell_of_get hb6 2; have e3 := cell_of_get hb6 3; have ef := frozen_of_get hb6 2; have p0 := cell_of_get hr6 0; have p1 := cell_of_get hr6 1; have p2 := cell_of_get hr6 2; have p3 := cell_of_get hr6 3; have pf0 := frozen_of_get hr6 0; have pf1 := frozen_of_get hr6 1; have pf2 := frozen_of_get hr6 2; have pf3 := frozen_of_get hr6 3; clear hrun hb6 hr6 hpost; clear hsp hcp) | (go_at_call 38; (with_reducible refine (h3 _).mono ?_); rintro e w4 ⟨rfl, rfl⟩) | (go_at_call 38; (with_reducible refine (h7 _).mono ?_); rintro e w4 ⟨rfl, rfl⟩) | (at_builtin; refine wpList_app rfl rfl rfl rfl HRUN.out ?_; clear HRUN))
          refine bodyPost_ret (res28 Try.results33 _ _ (w.heap.size + 1) rfl (set4_heap (((Fr.refl (fun c => c = w2.heap.size) w6).setCell (p := ⟨w2.heap.size, 2, none⟩) (fun _ => rfl) _).get HR6.out (by omega)) _ _ _ _)) rfl ?_
          exact HPOST.out _ (((Fr.refl (fun c => c = w.heap.size + 1 ∨ c = w2.heap.size) w6).setCell (p := ⟨w2.heap.size, 2, none⟩) (fun _ => .inr rfl) _).trans (set4_fr _ _ _ _ _ _) (fun _ _ e => .inl e)) _ _ (.mk _ _ _ _ (by omega) (by simp <;> omega) (by first | omega | simp) (fun y hy => (HS.out y hy).up (by omega)))
        · go_enter Try.func33, Try.ntmps33
          go_wp2_with (first | (go_at_call 57; (with_reducible refine hcp.mono ?_); rintro e w2 ⟨aN, cN, aA, cA, B1, rfl, hsp, hA1, hA2⟩; have HSP := hid hsp; have g0 := frozen_of_get hsp.res 0; have g1 := frozen_of_get hsp.res 1; have g2 := frozen_of_get hsp.res 2; have g3 := frozen_of_get hsp.res 3; have r0 := cell_of_get hsp.res 0; have r1 := cell_of_get hsp.res 1; have r2 := cell_of_get hsp.res 2; have r3 := cell_of_get hsp.res 3; have hne : w.heap.size + 1 < w2.heap.size := (by have q1 := hsp.b0; have q2 := hsp.b1; omega); have hne2 : w.heap.size < w2.heap.size := (by omega); have hne3 : ¬ w.heap.size = w2.heap.size := (by omega); obtain ⟨v1, w6, hrun, ⟨a6, m6, c6, rfl⟩, hb6, hr6, hpost⟩ := hsp.name (by omega) #[Kv k, St t, .slice aN ns.length cN, .slice aA a.length cA] [] 25; have HRUN := hid hrun; have HR6 := hid hr6; have HPOST := hid hpost; have e0 := cell_of_get hb6 0; have e1 := cell_of_get hb6 1; have e2 := cell_of_get hb6 2; have e3 := cell_of_get hb6 3; have ef := frozen_of_get hb6 2; have p0 := cell_of_get hr6 0; have p1 := cell_of_get hr6 1; have p2 := cell_of_get hr6 2; have p3 := cell_of_get hr6 3; have pf0 := frozen_of_get hr6 0; have pf1 := frozen_of_get hr6 1; have pf2 := frozen_of_get hr6 2; have pf3 := frozen_of_get hr6 3; clear hrun hb6 hr6 hpost; clear hsp hcp) | (go_at_call 38; (with_reducible refine (h3 _).mono ?_); rintro e w4 ⟨rfl, rfl⟩) | (go_at_call 38; (with_reducible refine (h7 _).mono ?_); rintro e w4 ⟨rfl, rfl⟩) | (at_builtin; refine wpList_app rfl rfl rfl rfl HRUN.out ?_; clear HRUN))
          refine bodyPost_ret (res28 Try.results33 _ _ (w.heap.size + 1) rfl (set4_heap (((Fr.refl (fun c => c = w2.heap.size) w6).setCell (p := ⟨w2.heap.size, 2, none⟩) (fun _ => rfl) _).get HR6.out (by omega)) _ _ _ _)) rfl ?_
          exact HPOST.out _ (((Fr.refl (fun c => c = w.heap.size + 1 ∨ c = w2.heap.size) w6).setCell (p := ⟨w2.heap.size, 2, none⟩) (fun _ => .inr rfl) _).trans (set4_fr _ _ _ _ _ _) (fun _ _ e => .inl e)) _ _ (.mk _ _ _ _ (by omega) (by simp <;> omega) (by first | omega | simp) (fun y hy => (HS.out y hy).up (by omega)))
      · obtain rfl | ⟨hl, rfl⟩ := hcase
        · simp only [List.length_nil] at *
          go_enter Try.func33, Try.ntmps33
          go_wp2_with (first | (go_at_call 57; (with_reducible refine hcp.mono ?_); rintro e w2 ⟨aN, cN, aA, cA, B1, rfl, hsp, hA1, hA2⟩; have HSP := hid hsp; have g0 := frozen_of_get hsp.res 0; have g1 := frozen_of_get hsp.res 1; have g2 := frozen_of_get hsp.res 2; have g3 := frozen_of_get hsp.res 3; have r0 := cell_of_get hsp.res 0; have r1 := cell_of_get hsp.res 1; have r2 := cell_of_get hsp.res 2; have r3 := cell_of_get hsp.res 3; have hne : w.heap.size + 1 < w2.heap.size := (by have q1 := hsp.b0; have q2 := hsp.b1; omega); have hne2 : w.heap.size < w2.heap.size := (by omega); have hne3 : ¬ w.heap.size = w2.heap.size := (by omega); obtain ⟨v1, w6, hrun, ⟨a6, m6, c6, rfl⟩, hb6, hr6, hpost⟩ := hsp.part (by first | omega | simp) #[Kv k, St t, .slice aN ns.length cN, .slice aA 0 cA] 26; have HRUN := hid hrun; have HR6 := hid hr6; have HPOST := hid hpost; have e0 := cell_of_get hb6 0; have e1 := cell_of_get hb6 1; have e2 := cell_of_get hb6 2; have e3 := cell_of_get hb6 3; have ef := frozen_of_get hb6 3; have p0 := cell_of_get hr6 0; have p1 := cell_of_get hr6 1; have p2 := cell_of_get hr6 2; have p3 := cell_of_get hr6 3; have pf0 := frozen_of_get hr6 0; have pf1 := frozen_of_get hr6 1; have pf2 := frozen_of_get hr6 2; have pf3 := frozen_of_get hr6 3; clear hrun hb6 hr6 hpost; clear hsp hcp) | (go_at_call 38; (with_reducible refine (h3 _).mono ?_); rintro e w4 ⟨rfl, rfl⟩) | (go_at_call 38; (with_reducible refine (h7 _).mono ?_); rintro e w4 ⟨rfl, rfl⟩) | (at_builtin; refine wpList_app rfl rfl rfl rfl HRUN.out ?_; clear HRUN))
          refine bodyPost_ret (res28 Try.results33 _ _ (w.heap.size + 1) rfl (set4_heap (((Fr.refl (fun c => c = w2.heap.size) w6).setCell (p := ⟨w2.heap.size, 3, none⟩) (fun _ => rfl) _).get HR6.out (by omega)) _ _ _ _)) rfl ?_
          exact HPOST.out _ (((Fr.refl (fun c => c = w.heap.size + 1 ∨ c = w2.heap.size) w6).setCell (p := ⟨w2.heap.size, 3, none⟩) (fun _ => .inr rfl) _).trans (set4_fr _ _ _ _ _ _) (fun _ _ e => .inl e)) _ _ (.mk _ _ _ _ (by omega) (by omega) (by simp <;> omega) (fun y hy => (List.mem_append.1 hy).elim (fun q => (HS.out y q).up (by omega)) (fun q => by rw [List.mem_singleton.1 q]; exact .mk _ _ _ _ (by simp) (by simp) (by simp) (by simp))))
        · go_enter Try.func33, Try.ntmps33
          go_wp2_with (first | (go_at_call 57; (with_reducible refine hcp.mono ?_); rintro e w2 ⟨aN, cN, aA, cA, B1, rfl, hsp, hA1, hA2⟩; have HSP := hid hsp; have g0 := frozen_of_get hsp.res 0; have g1 := frozen_of_get hsp.res 1; have g2 := frozen_of_get hsp.res 2; have g3 := frozen_of_get hsp.res 3; have r0 := cell_of_get hsp.res 0; have r1 := cell_of_get hsp.res 1; have r2 := cell_of_get hsp.res 2; have r3 := cell_of_get hsp.res 3; have hne : w.heap.size + 1 < w2.heap.size := (by have q1 := hsp.b0; have q2 := hsp.b1; omega); have hne2 : w.heap.size < w2.heap.size := (by omega); have hne3 : ¬ w.heap.size = w2.heap.size := (by omega); obtain ⟨v1, w6, hrun, ⟨a6, m6, c6, rfl⟩, hb6, hr6, hpost⟩ := hsp.part (by first | omega | simp) #[Kv k, St t, .slice aN ns.length cN, .slice aA a.length cA] 26; have HRUN := hid hrun; have HR6 := hid hr6; have HPOST := hid hpost; have e0 := cell_of_get hb6 0; have e1 := cell_of_get hb6 1; have e2 := cell_of_get hb6 2; have e3 := cell_of_get hb6 3; have ef := frozen_of_get hb6 3; have p0 := cell_of_get hr6 0; have p1 := cell_of_get hr6 1; have p2 := cell_of_get hr6 2; have p3 := cell_of_get hr6 3; have pf0 := frozen_of_get hr6 0; have pf1 := frozen_of_get hr6 1; have pf2 := frozen_of_get hr6 2; have pf3 := frozen_of_get hr6 3; clear hrun hb6 hr6 hpost; clear hsp hcp) | (go_at_call 38; (with_reducible refine (h3 _).mono ?_); rintro e w4 ⟨rfl, rfl⟩) | (go_at_call 38; (with_reducible refine (h7 _).mono ?_); rintro e w4 ⟨rfl, rfl⟩) | (at_builtin; refine wpList_app rfl rfl rfl rfl HRUN.out ?_; clear HRUN))
          refine bodyPost_ret (res28 Try.results33 _ _ (w.heap.size + 1) rfl (set4_heap (((Fr.refl (fun c => c = w2.heap.size) w6).setCell (p := ⟨w2.heap.size, 3, none⟩) (fun _ => rfl) _).get HR6.out (by omega)) _ _ _ _)) rfl ?_
          exact HPOST.out _ (((Fr.refl (fun c => c = w.heap.size + 1 ∨ c = w2.heap.size) w6).setCell (p := ⟨w2.heap.size, 3, none⟩) (fun _ => .inr rfl) _).trans (set4_fr _ _ _ _ _ _) (fun _ _ e => .inl e)) _ _ (.mk _ _ _ _ (by omega) (by omega) (by simp <;> omega) (fun y hy => (List.mem_append.1 hy).elim (fun q => (HS.out y q).up (by omega)) (fun q => by rw [List.mem_singleton.1 q]; exact .mk _ _ _ _ (by simp) (by simp) (by simp) (by simp))))
      · obtain rfl | ⟨hl, rfl⟩ := hcase
        · simp only [List.length_nil] at *
          go_enter Try.func33, Try.ntmps33
          go_wp2_with (first | (go_at_call 57; (with_reducible refine hcp.mono ?_); rintro e w2 ⟨aN, cN, aA, cA, B1, rfl, hsp, hA1, hA2⟩; have HSP := hid hsp; have g0 := frozen_of_get hsp.res 0; have g1 := frozen_of_get hsp.res 1; have g2 := frozen_of_get hsp.res 2; have g3 := frozen_of_get hsp.res 3; have r0 := cell_of_get hsp.res 0; have r1 := cell_of_get hsp.res 1; have r2 := cell_of_get hsp.res 2; have r3 := cell_of_get hsp.res 3; have hne : w.heap.size + 1 < w2.heap.size := (by have q1 := hsp.b0; have q2 := hsp.b1; omega); have hne2 : w.heap.size < w2.heap.size := (by omega); have hne3 : ¬ w.heap.size = w2.heap.size := (by omega); clear hsp hcp) | (go_at_call 38; (with_reducible refine (h3 _).mono ?_); rintro e w4 ⟨rfl, rfl⟩) | (go_at_call 38; (with_reducible refine (h7 _).mono ?_); rintro e w4 ⟨rfl, rfl⟩))
          refine bodyPost_ret (res28 Try.results33 _ _ (w.heap.size + 1) rfl (((Fr.refl (fun _ => False) _).alloc _).get (set4_heap HSP.out.res _ _ _ _) (fun f => f))) rfl ?_
          exact HSP.out.fin ((set4_fr _ _ _ _ _ _).alloc _) (.mk _ _ _ _ (by omega) (by omega) (by first | omega | simp) (fun y hy => (HS.out y hy).up (by omega)))
        · go_enter Try.func33, Try.ntmps33
          go_wp2_with (first | (go_at_call 57; (with_reducible refine hcp.mono ?_); rintro e w2 ⟨aN, cN, aA, cA, B1, rfl, hsp, hA1, hA2⟩; have HSP := hid hsp; have g0 := frozen_of_get hsp.res 0; have g1 := frozen_of_get hsp.res 1; have g2 := frozen_of_get hsp.res 2; have g3 := frozen_of_get hsp.res 3; have r0 := cell_of_get hsp.res 0; have r1 := cell_of_get hsp.res 1; have r2 := cell_of_get hsp.res 2; have r3 := cell_of_get hsp.res 3; have hne : w.heap.size + 1 < w2.heap.size := (by have q1 := hsp.b0; have q2 := hsp.b1; omega); have hne2 : w.heap.size < w2.heap.size := (by omega); have hne3 : ¬ w.heap.size = w2.heap.size := (by omega); clear hsp hcp) | (go_at_call 38; (with_reducible refine (h3 _).mono ?_); rintro e w4 ⟨rfl, rfl⟩) | (go_at_call 38; (with_reducible refine (h7 _).mono ?_); rintro e w4 ⟨rfl, rfl⟩))
          refine bodyPost_ret (res28 Try.results33 _ _ (w.heap.size + 1) rfl (((Fr.refl (fun _ => False) _).alloc _).get (set4_heap HSP.out.res _ _ _ _) (fun f => f))) rfl ?_
          exact HSP.out.fin5 _ (Nat.sub_le _ _) ((set4_fr _ _ _ _ _ _).alloc _) (.mk _ _ _ _ (by omega) (by omega) (by simp; omega) (fun y hy => (HS.out y (List.mem_of_mem_take hy)).up (by omega)))
      · obtain rfl | ⟨hl, rfl⟩ := hcase
        · simp only [List.length_nil] at *
          by_cases hn1 : 1 < ns.length
          · have hn2 : (1 : Int) < ns.length := by omega
            go_enter Try.func33, Try.ntmps33
            go_wp2_with (first | (go_at_call 57; (with_reducible refine hcp.mono ?_); rintro e w2 ⟨aN, cN, aA, cA, B1, rfl, hsp, hA1, hA2⟩; have HSP := hid hsp; have g0 := frozen_of_get hsp.res 0; have g1 := frozen_of_get hsp.res 1; have g2 := frozen_of_get hsp.res 2; have g3 := frozen_of_get hsp.res 3; have r0 := cell_of_get hsp.res 0; have r1 := cell_of_get hsp.res 1; have r2 := cell_of_get hsp.res 2; have r3 := cell_of_get hsp.res 3; have hne : w.heap.size + 1 < w2.heap.size := (by have q1 := hsp.b0; have q2 := hsp.b1; omega); have hne2 : w.heap.size < w2.heap.size := (by omega); have hne3 : ¬ w.heap.size = w2.heap.size := (by omega); obtain ⟨gN, cp, s0, s1, eN, hgB, hgl, hcp1, hcp2, n0, n1, nf, hs0, hnm⟩ := rt_set hsp.rt hn1; simp only [Value.slice.injEq] at eN; obtain ⟨rfl, -, rfl⟩ := eN; have hgN := hsp.sep gN rfl; have HNM := hid hnm; have HS0 := hid hs0; replace hcp2 : cN ≤ 9223372036854775807 := hcp2; clear hs0 hnm; clear hsp hcp) | (go_at_call 38; (with_reducible refine (h3 _).mono ?_); rintro e w4 ⟨rfl, rfl⟩) | (go_at_call 38; (with_reducible refine (h7 _).mono ?_); rintro e w4 ⟨rfl, rfl⟩))
            go_region
            go_wp2
            refine bodyPost_ret (res28 Try.results33 _ _ (w.heap.size + 1) rfl (((Fr.refl (fun _ => False) _).alloc _).drew.get (set4_heap (((Fr.refl (fun c => c = gN) w2).setCell (p := ⟨gN, 1, none⟩) (fun _ => rfl) _).get HSP.out.res (by omega)) _ _ _ _) (fun f => f))) rfl ?_
            exact HSP.out.fin6 hgB hgN HNM.out (((set4_fr _ _ _ _ _ _).alloc _).drew) (.mk _ _ _ _ (by omega) (by simp <;> omega) (by first | omega | simp) (fun y hy => (HS.out y hy).up (by omega)))
          · have hn2 : ¬ (1 : Int) < ns.length := by omega
            go_enter Try.func33, Try.ntmps33
            go_wp2_with (first | (go_at_call 57; (with_reducible refine hcp.mono ?_); rintro e w2 ⟨aN, cN, aA, cA, B1, rfl, hsp, hA1, hA2⟩; have HSP := hid hsp; have g0 := frozen_of_get hsp.res 0; have g1 := frozen_of_get hsp.res 1; have g2 := frozen_of_get hsp.res 2; have g3 := frozen_of_get hsp.res 3; have r0 := cell_of_get hsp.res 0; have r1 := cell_of_get hsp.res 1; have r2 := cell_of_get hsp.res 2; have r3 := cell_of_get hsp.res 3; have hne : w.heap.size + 1 < w2.heap.size := (by have q1 := hsp.b0; have q2 := hsp.b1; omega); have hne2 : w.heap.size < w2.heap.size := (by omega); have hne3 : ¬ w.heap.size = w2.heap.size := (by omega); clear hsp hcp) | (go_at_call 38; (with_reducible refine (h3 _).mono ?_); rintro e w4 ⟨rfl, rfl⟩) | (go_at_call 38; (with_reducible refine (h7 _).mono ?_); rintro e w4 ⟨rfl, rfl⟩))
            refine bodyPost_ret (res28 Try.results33 _ _ (w.heap.size + 1) rfl (((Fr.refl (fun _ => False) _).alloc _).get (set4_heap HSP.out.res _ _ _ _) (fun f => f))) rfl ?_
            exact HSP.out.fin ((set4_fr _ _ _ _ _ _).alloc _) (.mk _ _ _ _ (by omega) (by omega) (by first | omega | simp) (fun y hy => (HS.out y hy).up (by omega)))
        · by_cases hn1 : 1 < ns.length
          · have hn2 : (1 : Int) < ns.length := by omega
            go_enter Try.func33, Try.ntmps33
            go_wp2_with (first | (go_at_call 57; (with_reducible refine hcp.mono ?_); rintro e w2 ⟨aN, cN, aA, cA, B1, rfl, hsp, hA1, hA2⟩; have HSP := hid hsp; have g0 := frozen_of_get hsp.res 0; have g1 := frozen_of_get hsp.res 1; have g2 := frozen_of_get hsp.res 2; have g3 := frozen_of_get hsp.res 3; have r0 := cell_of_get hsp.res 0; have r1 := cell_of_get hsp.res 1; have r2 := cell_of_get hsp.res 2; have r3 := cell_of_get hsp.res 3; have hne : w.heap.size + 1 < w2.heap.size := (by have q1 := hsp.b0; have q2 := hsp.b1; omega); have hne2 : w.heap.size < w2.heap.size := (by omega); have hne3 : ¬ w.heap.size = w2.heap.size := (by omega); obtain ⟨gN, cp, s0, s1, eN, hgB, hgl, hcp1, hcp2, n0, n1, nf, hs0, hnm⟩ := rt_set hsp.rt hn1; simp only [Value.slice.injEq] at eN; obtain ⟨rfl, -, rfl⟩ := eN; have hgN := hsp.sep gN rfl; have HNM := hid hnm; have HS0 := hid hs0; replace hcp2 : cN ≤ 9223372036854775807 := hcp2; clear hs0 hnm; clear hsp hcp) | (go_at_call 38; (with_reducible refine (h3 _).mono ?_); rintro e w4 ⟨rfl, rfl⟩) | (go_at_call 38; (with_reducible refine (h7 _).mono ?_); rintro e w4 ⟨rfl, rfl⟩))
            go_region
            go_wp2
            refine bodyPost_ret (res28 Try.results33 _ _ (w.heap.size + 1) rfl (((Fr.refl (fun _ => False) _).alloc _).drew.get (set4_heap (((Fr.refl (fun c => c = gN) w2).setCell (p := ⟨gN, 1, none⟩) (fun _ => rfl) _).get HSP.out.res (by omega)) _ _ _ _) (fun f => f))) rfl ?_
            exact HSP.out.fin6 hgB hgN HNM.out (((set4_fr _ _ _ _ _ _).alloc _).drew) (.mk _ _ _ _ (by omega) (by simp <;> omega) (by first | omega | simp) (fun y hy => (HS.out y hy).up (by omega)))
          · have hn2 : ¬ (1 : Int) < ns.length := by omega
            go_enter Try.func33, Try.ntmps33
            go_wp2_with (first | (go_at_call 57; (with_reducible refine hcp.mono ?_); rintro e w2 ⟨aN, cN, aA, cA, B1, rfl, hsp, hA1, hA2⟩; have HSP := hid hsp; have g0 := frozen_of_get hsp.res 0; have g1 := frozen_of_get hsp.res 1; have g2 := frozen_of_get hsp.res 2; have g3 := frozen_of_get hsp.res 3; have r0 := cell_of_get hsp.res 0; have r1 := cell_of_get hsp.res 1; have r2 := cell_of_get hsp.res 2; have r3 := cell_of_get hsp.res 3; have hne : w.heap.size + 1 < w2.heap.size := (by have q1 := hsp.b0; have q2 := hsp.b1; omega); have hne2 : w.heap.size < w2.heap.size := (by omega); have hne3 : ¬ w.heap.size = w2.heap.size := (by omega); clear hsp hcp) | (go_at_call 38; (with_reducible refine (h3 _).mono ?_); rintro e w4 ⟨rfl, rfl⟩) | (go_at_call 38; (with_reducible refine (h7 _).mono ?_); rintro e w4 ⟨rfl, rfl⟩))
            refine bodyPost_ret (res28 Try.results33 _ _ (w.heap.size + 1) rfl (((Fr.refl (fun _ => False) _).alloc _).get (set4_heap HSP.out.res _ _ _ _) (fun f => f))) rfl ?_
            exact HSP.out.fin ((set4_fr _ _ _ _ _ _).alloc _) (.mk _ _ _ _ (by omega) (by omega) (by first | omega | simp) (fun y hy => (HS.out y hy).up (by omega)))
end Go.Proofs.Ytddcfnjmppijjaa
