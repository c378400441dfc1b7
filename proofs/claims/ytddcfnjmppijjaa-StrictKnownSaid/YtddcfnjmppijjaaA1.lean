import Derived.Test.YtddcfnjmppijjaaRows
import Derived.WalkKit
import Derived.WalkSpells
import Derived.WalkLawsBesides
import Derived.MapKept
/-! Words for the walks: what may change (`Fr`), texts, terms as data, how they lie in memory. -/
namespace Go.Proofs.Ytddcfnjmppijjaa
open Go.RowKit

/-- a fact kept from the walk -/
theorem hid {p : Prop} (h : p) : Hid p := h

/-- an int value -/
abbrev Kv (a : Int) : Value := .int .i64 a

/-- Of the blocks that were there only those of F may have turned; the streams are as they were. -/
structure Fr (F : Nat → Prop) (w w' : World) : Prop where
  os : w'.os = w.os
  tape : w'.tape = w.tape
  output : w'.output = w.output
  size : w.heap.size ≤ w'.heap.size
  block : ∀ k, k < w.heap.size → ¬ F k → w'.heap[k]? = w.heap[k]?

theorem Fr.refl (F : Nat → Prop) (w : World) : Fr F w w := ⟨rfl, rfl, rfl, Nat.le_refl _, fun _ _ _ => rfl⟩
theorem Fr.trans {F G : Nat → Prop} {a b c : World} (h : Fr F a b) (k : Fr G b c) (hG : ∀ i, i < a.heap.size → G i → F i) : Fr F a c :=
  ⟨k.os.trans h.os, k.tape.trans h.tape, k.output.trans h.output, Nat.le_trans h.size k.size, fun i hi hn =>
    (k.block i (Nat.lt_of_lt_of_le hi h.size) (fun g => hn (hG i hi g))).trans (h.block i hi hn)⟩
theorem Fr.mono {F G : Nat → Prop} {a b : World} (h : Fr F a b) (hG : ∀ i, i < a.heap.size → F i → G i) : Fr G a b :=
  ⟨h.os, h.tape, h.output, h.size, fun i hi hn => h.block i hi (fun f => hn (hG i hi f))⟩
theorem Fr.drew {F : Nat → Prop} {a w : World} (h : Fr F a w) : Fr F a w.drew := ⟨h.os, h.tape, h.output, h.size, h.block⟩
theorem Fr.drewN {F : Nat → Prop} {a w : World} (h : Fr F a w) (n : Nat) : Fr F a (w.drewN n) := ⟨h.os, h.tape, h.output, h.size, h.block⟩
theorem Fr.alloc {F : Nat → Prop} {a w : World} (h : Fr F a w) (o : Obj) : Fr F a (w.alloc o) :=
  h.trans (G := fun _ => False) ⟨rfl, rfl, rfl, by simp, fun k hk _ => Below.heap_alloc _ _ _ hk⟩ (fun _ _ f => f.elim)
theorem Fr.setCell {F : Nat → Prop} {a w : World} (h : Fr F a w) {p : Addr} (hp : p.block < a.heap.size → F p.block) (u : Value) : Fr F a (w.setCell p u) :=
  h.trans (G := fun k => k = p.block) ⟨rfl, rfl, rfl, by simp [World.setCell], fun k _ hn => Below.heap_setCell _ _ _ _ hn⟩ (fun i hi e => by subst e; exact hp hi)
theorem Fr.grown {F : Nat → Prop} {a w w' : World} {row : Option Nat} (h : Fr F a w) (hg : w.grownBy w' row) (hr : ∀ k, row = some k → k < a.heap.size → F k) : Fr F a w' :=
  h.trans (G := fun k => row = some k) ⟨hg.os, hg.tape, hg.output, hg.size, fun k hk hn => hg.block k hk (fun e => hn e.symm)⟩ (fun i hi e => hr i e hi)
theorem Fr.cell {F : Nat → Prop} {w w' : World} (h : Fr F w w') {p : Addr} {v : Value} (hc : w.cell? p = some v) (hp : ¬ F p.block) : w'.cell? p = some v := by
  have hlt := World.block_lt_of_cell? w p hc
  rw [World.cell?_of_block (h.block p.block hlt hp)]; exact hc
theorem Fr.get {F : Nat → Prop} {w w' : World} (h : Fr F w w') {k : Nat} {o : Obj} (hc : w.heap[k]? = some o) (hp : ¬ F k) : w'.heap[k]? = some o := by
  rw [h.block k (Array.getElem?_eq_some_iff.1 hc).1 hp]; exact hc
theorem Fr.lt {F : Nat → Prop} {w w' : World} (h : Fr F w w') {k : Nat} (hk : k < w.heap.size) : k < w'.heap.size := Nat.lt_of_lt_of_le hk h.size
/-- nothing that was there has turned -/
abbrev Grew (w w' : World) : Prop := Fr (fun _ => False) w w'
theorem Fr.below {w w' : World} (h : Grew w w') : Below w.heap.size w w' := ⟨h.os, h.tape, h.output, h.size, fun k hk => h.block k hk (fun f => f)⟩
theorem Grew.any {F : Nat → Prop} {w w' : World} (h : Grew w w') : Fr F w w' := h.mono (fun _ _ f => f.elim)

theorem lt_of_get {w : World} {k : Nat} {o : Obj} (hc : w.heap[k]? = some o) : k < w.heap.size := (Array.getElem?_eq_some_iff.1 hc).1

theorem cell_of_get {w : World} {b : Nat} {c : Array Value} {t : TypeId} {f : Nat × Nat} (h : w.heap[b]? = some (.cells c t f)) (i : Nat) : w.cell? ⟨b, i, none⟩ = c[i]? := by
  simp [World.cell?, h]
theorem frozen_of_get {w : World} {b : Nat} {c : Array Value} {t : TypeId} (h : w.heap[b]? = some (.cells c t (0, 0))) (i : Nat) : w.frozen? ⟨b, i, none⟩ = false := by
  simp [World.frozen?, h]

/-- a text -/
abbrev Str := List UInt8
/-- a text's value -/
abbrev St (s : Str) : Value := .string ⟨s.toArray⟩

/-- a term: its kind, its text, its names, its parts -/
inductive X where
  | mk (k : Int) (t : Str) (ns : List Str) (a : List X)
def X.kind : X → Int | .mk k _ _ _ => k
def X.text : X → Str | .mk _ t _ _ => t
def X.names : X → List Str | .mk _ _ ns _ => ns
def X.parts : X → List X | .mk _ _ _ a => a

/-- The slice v reads as these texts; the block that it leads to is none of D. -/
def Nm (w : World) (D : Nat → Prop) (v : Value) (ns : List Str) : Prop :=
  ∃ ad cap, v = .slice ad ns.length cap ∧ ns.length ≤ cap ∧ cap ≤ maxLen ∧ (ns = [] ∨ ∃ g o, ad = some ⟨g, o, none⟩ ∧ ¬ D g ∧ ∀ i (hi : i < ns.length), w.cell? ⟨g, o + i, none⟩ = some (St ns[i]))

theorem Nm.kept {w w' : World} {F D : Nat → Prop} {v : Value} {ns : List Str} (h : Nm w D v ns) (k : Fr F w w') (hF : ∀ b, F b → D b) : Nm w' D v ns := by
  obtain ⟨ad, cap, h1, h2, h3, h4⟩ := h
  refine ⟨ad, cap, h1, h2, h3, ?_⟩
  rcases h4 with h4 | ⟨g, o, h5, h6, h7⟩
  · exact .inl h4
  · exact .inr ⟨g, o, h5, h6, fun i hi => k.cell (h7 i hi) (fun f => h6 (hF _ f))⟩

theorem Nm.mono {w : World} {D E : Nat → Prop} {v : Value} {ns : List Str} (h : Nm w D v ns) (hE : ∀ b, b < w.heap.size → E b → D b) : Nm w E v ns := by
  obtain ⟨ad, cap, h1, h2, h3, h4⟩ := h
  refine ⟨ad, cap, h1, h2, h3, ?_⟩
  rcases h4 with h4 | ⟨g, o, h5, h6, h7⟩
  · exact .inl h4
  · by_cases hn : ns = []
    · exact .inl hn
    · have hp : 0 < ns.length := (by cases ns <;> simp_all)
      exact .inr ⟨g, o, h5, fun e => h6 (hE _ (World.block_lt_of_cell? w _ (h7 0 hp)) e), h7⟩

/-- The slice v reads as these terms; no block that they lead to is one of D. -/
inductive Row (w : World) (D : Nat → Prop) : Value → List X → Prop
  | nil (ad : Option Addr) (cap : Nat) (hm : cap ≤ maxLen) : Row w D (.slice ad 0 cap) []
  | mk (l : List X) (g o cap : Nat) (vn va : Nat → Value) (hn : l.length ≤ cap) (hm : cap ≤ maxLen) (hD : ¬ D g)
      (h0 : ∀ i (hi : i < l.length), w.cell? ⟨g, o + i * 4, none⟩ = some (Kv l[i].kind))
      (h1 : ∀ i (hi : i < l.length), w.cell? ⟨g, o + i * 4 + 1, none⟩ = some (St l[i].text))
      (h2 : ∀ i, i < l.length → w.cell? ⟨g, o + i * 4 + 2, none⟩ = some (vn i))
      (h3 : ∀ i, i < l.length → w.cell? ⟨g, o + i * 4 + 3, none⟩ = some (va i))
      (hN : ∀ i (hi : i < l.length), Nm w D (vn i) l[i].names)
      (hR : ∀ i (hi : i < l.length), Row w D (va i) l[i].parts) : Row w D (.slice (some ⟨g, o, none⟩) l.length cap) l

theorem Row.kept {w w' : World} {F D : Nat → Prop} {v : Value} {l : List X} (h : Row w D v l) (k : Fr F w w') (hF : ∀ b, F b → D b) : Row w' D v l := by
  induction h with
  | nil ad cap hm => exact .nil ad cap hm
  | mk l g o cap vn va hn hm hD h0 h1 h2 h3 hN _ ih =>
    have hg : ¬ F g := fun f => hD (hF g f)
    exact .mk l g o cap vn va hn hm hD (fun i hi => k.cell (h0 i hi) hg) (fun i hi => k.cell (h1 i hi) hg) (fun i hi => k.cell (h2 i hi) hg) (fun i hi => k.cell (h3 i hi) hg)
      (fun i hi => (hN i hi).kept k hF) ih

theorem Row.mono {w : World} {D E : Nat → Prop} {v : Value} {l : List X} (h : Row w D v l) (hE : ∀ b, b < w.heap.size → E b → D b) : Row w E v l := by
  induction h with
  | nil ad cap hm => exact .nil ad cap hm
  | mk l g o cap vn va hn hm hD h0 h1 h2 h3 hN _ ih =>
    by_cases hl : l = []
    · subst hl; exact .nil _ cap hm
    · have hp : 0 < l.length := (by cases l <;> simp_all)
      exact .mk l g o cap vn va hn hm (fun e => hD (hE _ (World.block_lt_of_cell? w _ (h0 0 hp)) e)) h0 h1 h2 h3 (fun i hi => (hN i hi).mono hE) ih

theorem Nm.shape {w : World} {D : Nat → Prop} {v : Value} {ns : List Str} (h : Nm w D v ns) : ∃ ad cap, v = .slice ad ns.length cap ∧ ns.length ≤ cap ∧ cap ≤ maxLen := by
  obtain ⟨ad, cap, h1, h2, h3, _⟩ := h
  exact ⟨ad, cap, h1, h2, h3⟩
theorem Row.shape {w : World} {D : Nat → Prop} {v : Value} {l : List X} (h : Row w D v l) : ∃ ad cap, v = .slice ad l.length cap ∧ l.length ≤ cap ∧ cap ≤ maxLen := by
  cases h with
  | nil ad cap hm => exact ⟨ad, cap, rfl, Nat.zero_le _, hm⟩
  | mk l g o cap vn va hn hm => exact ⟨_, cap, rfl, hn, hm⟩

/-- at p of the block g lies the term x -/
structure El (w : World) (D : Nat → Prop) (g p : Nat) (x : X) (an : Option Addr) (cn : Nat) (aa : Option Addr) (ca : Nat) : Prop where
  c0 : w.cell? ⟨g, p, none⟩ = some (Kv x.kind)
  c1 : w.cell? ⟨g, p + 1, none⟩ = some (St x.text)
  c2 : w.cell? ⟨g, p + 2, none⟩ = some (.slice an x.names.length cn)
  c3 : w.cell? ⟨g, p + 3, none⟩ = some (.slice aa x.parts.length ca)
  nm : Nm w D (.slice an x.names.length cn) x.names
  row : Row w D (.slice aa x.parts.length ca) x.parts
theorem El.kept {w w' : World} {F D : Nat → Prop} {g p : Nat} {x : X} {an : Option Addr} {cn : Nat} {aa : Option Addr} {ca : Nat} (h : El w D g p x an cn aa ca) (hD : ¬ D g) (k : Fr F w w') (hF : ∀ b, F b → D b) : El w' D g p x an cn aa ca :=
  have hg : ¬ F g := fun f => hD (hF g f)
  ⟨k.cell h.c0 hg, k.cell h.c1 hg, k.cell h.c2 hg, k.cell h.c3 hg, h.nm.kept k hF, h.row.kept k hF⟩

theorem Row.ind {w : World} {D : Nat → Prop} {P : Value → List X → Prop} (hnil : ∀ ad cap, P (.slice ad 0 cap) [])
    (hmk : ∀ (l : List X) (g o cap : Nat), l.length ≤ cap → cap ≤ maxLen → ¬ D g → (∀ i x, l[i]? = some x → ∃ an cn aa ca, El w D g (o + i * 4) x an cn aa ca ∧ P (.slice aa x.parts.length ca) x.parts) → P (.slice (some ⟨g, o, none⟩) l.length cap) l)
    {v : Value} {l : List X} (h : Row w D v l) : P v l := by
  induction h with
  | nil ad cap hm => exact hnil ad cap
  | mk l g o cap vn va hn hm hD h0 h1 h2 h3 hN hR ih =>
    refine hmk l g o cap hn hm hD fun i x hx => ?_
    obtain ⟨hi, rfl⟩ := List.getElem?_eq_some_iff.1 hx
    obtain ⟨an, cn, en, -⟩ := (hN i hi).shape
    obtain ⟨aa, ca, ea, -⟩ := (hR i hi).shape
    refine ⟨an, cn, aa, ca, ⟨h0 i hi, h1 i hi, by rw [h2 i hi, en], by rw [h3 i hi, ea], by rw [← en]; exact hN i hi, by rw [← ea]; exact hR i hi⟩, ?_⟩
    rw [← ea]; exact ih i hi

theorem Row.elems {w : World} {D : Nat → Prop} {v : Value} {l : List X} (h : Row w D v l) : l = [] ∨ ∃ g o cap, v = .slice (some ⟨g, o, none⟩) l.length cap ∧ l.length ≤ cap ∧ cap ≤ maxLen ∧ ¬ D g ∧
    ∀ i x, l[i]? = some x → ∃ an cn aa ca, El w D g (o + i * 4) x an cn aa ca := by
  refine Row.ind (P := fun v l => l = [] ∨ ∃ g o cap, v = .slice (some ⟨g, o, none⟩) l.length cap ∧ l.length ≤ cap ∧ cap ≤ maxLen ∧ ¬ D g ∧ ∀ i x, l[i]? = some x → ∃ an cn aa ca, El w D g (o + i * 4) x an cn aa ca) (fun _ _ => .inl rfl) (fun l g o cap h1 h2 h3 h4 => .inr ⟨g, o, cap, rfl, h1, h2, h3, fun i x hx => ?_⟩) h
  obtain ⟨an, cn, aa, ca, h5, _⟩ := h4 i x hx
  exact ⟨an, cn, aa, ca, h5⟩

/-- The value v reads as the term x. -/
def Rd (w : World) (D : Nat → Prop) (v : Value) (x : X) : Prop := ∃ vn va, v = .agg #[Kv x.kind, St x.text, vn, va] ∧ Nm w D vn x.names ∧ Row w D va x.parts

theorem Rd.kept {w w' : World} {F D : Nat → Prop} {v : Value} {x : X} (h : Rd w D v x) (k : Fr F w w') (hF : ∀ b, F b → D b) : Rd w' D v x := by
  obtain ⟨vn, va, h1, h2, h3⟩ := h
  exact ⟨vn, va, h1, h2.kept k hF, h3.kept k hF⟩
theorem Rd.mono {w : World} {D E : Nat → Prop} {v : Value} {x : X} (h : Rd w D v x) (hE : ∀ b, b < w.heap.size → E b → D b) : Rd w E v x := by
  obtain ⟨vn, va, h1, h2, h3⟩ := h
  exact ⟨vn, va, h1, h2.mono hE, h3.mono hE⟩
theorem Rd.grew {w w' : World} {D : Nat → Prop} {v : Value} {x : X} (h : Rd w D v x) (k : Grew w w') : Rd w' D v x := h.kept k (fun _ f => f.elim)
theorem Row.grew {w w' : World} {D : Nat → Prop} {v : Value} {l : List X} (h : Row w D v l) (k : Grew w w') : Row w' D v l := h.kept k (fun _ f => f.elim)
theorem Nm.grew {w w' : World} {D : Nat → Prop} {v : Value} {l : List Str} (h : Nm w D v l) (k : Grew w w') : Nm w' D v l := h.kept k (fun _ f => f.elim)

mutual
/-- a term's size -/
def X.size : X → Nat
  | .mk _ _ _ a => 1 + sizes a
def sizes : List X → Nat
  | [] => 0
  | x :: r => x.size + sizes r
end

/-- the append's run at the operation -/
theorem wpList_app {P : Program} {ops : Array Oper} {rest : List Oper} {o : Oper} {a : Act} {w : World} {Q : Exit → Act → World → Prop} (hgd : o.guard = none) {s x : Operand} {T T' : TypeId}
    (ho : o.op = .call { callee := .builtin .append, args := #[s, x], argTypes := #[T, T'] }) {v u v' : Value} {w' : World} (hs : a.eval s = v) (hx : a.eval x = u)
    (hr : (Builtin.append_ #[T, T'] o.type #[v, u]).run P w = .ok v' w') (k : wpList P ops Q rest (a.put o.dst v') w') : wpList P ops Q (o :: rest) a w := by
  refine wpList_plain hgd fun K hK => ?_
  unfold Oper.wp
  simp [execOp, ho, resolve, invoke, builtin, hs, hx, hr, Result.andThen]
  exact hK _ _ k
/-- the block of an object that is no row of cells is written -/
def putO (w : World) (b : Nat) (o : Obj) : World := { w with heap := w.heap.setIfInBounds b o }
theorem putO_get {w : World} {b : Nat} (h : b < w.heap.size) (o : Obj) : (putO w b o).heap[b]? = some o := by
  simp [putO, h]
theorem putO_other {w : World} {b k : Nat} (h : k ≠ b) (o : Obj) : (putO w b o).heap[k]? = w.heap[k]? := by
  simp only [putO]
  rw [Array.getElem?_setIfInBounds_ne (Ne.symm h)]
theorem Fr.putO {F : Nat → Prop} {a w : World} (h : Fr F a w) {b : Nat} (hb : b < a.heap.size → F b) (o : Obj) : Fr F a (putO w b o) :=
  h.trans (G := fun k => k = b) ⟨rfl, rfl, rfl, by simp [Ytddcfnjmppijjaa.putO], fun _ _ hn => putO_other hn o⟩ (fun i hi e => by subst e; exact hb hi)
theorem putO_size (w : World) (b : Nat) (o : Obj) : (putO w b o).heap.size = w.heap.size := by simp [putO]

end Go.Proofs.Ytddcfnjmppijjaa
