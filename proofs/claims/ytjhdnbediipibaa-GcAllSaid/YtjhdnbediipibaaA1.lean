import Derived.Test.YtjhdnbediipibaaRows
import Derived.WalkKit
import Derived.WalkSpells
import Derived.WalkLawsBesides
import Derived.MapKept
/-! Words for the walks: what may change (`Fr`), rows of ints, maps keyed by ints. -/
namespace Go.Proofs.Ytjhdnbediipibaa
open Go.RowKit

/-- a fact kept from the walk -/
theorem hid {p : Prop} (h : p) : Hid p := h

/-- an int value -/
abbrev Kv (a : Int) : Value := .int .i64 a

/-- Of the blocks that were there only those of F may have turned; the streams are as they were. -/
structure Fr (F : Nat → Prop) (w w' : World) : Prop where
  os : w'.os = w.os
  tape : w'.tape = w.tape
  output : w'.output = w.output
  size : w.heap.size ≤ w'.heap.size
  block : ∀ k, k < w.heap.size → ¬ F k → w'.heap[k]? = w.heap[k]?

theorem Fr.refl (F : Nat → Prop) (w : World) : Fr F w w := ⟨rfl, rfl, rfl, Nat.le_refl _, fun _ _ _ => rfl⟩
theorem Fr.trans {F G : Nat → Prop} {a b c : World} (h : Fr F a b) (k : Fr G b c) (hG : ∀ i, i < a.heap.size → G i → F i) : Fr F a c :=
  ⟨k.os.trans h.os, k.tape.trans h.tape, k.output.trans h.output, Nat.le_trans h.size k.size, fun i hi hn =>
    (k.block i (Nat.lt_of_lt_of_le hi h.size) (fun g => hn (hG i hi g))).trans (h.block i hi hn)⟩
theorem Fr.mono {F G : Nat → Prop} {a b : World} (h : Fr F a b) (hG : ∀ i, i < a.heap.size → F i → G i) : Fr G a b :=
  ⟨h.os, h.tape, h.output, h.size, fun i hi hn => h.block i hi (fun f => hn (hG i hi f))⟩
theorem Fr.drew {F : Nat → Prop} {a w : World} (h : Fr F a w) : Fr F a w.drew := ⟨h.os, h.tape, h.output, h.size, h.block⟩
theorem Fr.drewN {F : Nat → Prop} {a w : World} (h : Fr F a w) (n : Nat) : Fr F a (w.drewN n) := ⟨h.os, h.tape, h.output, h.size, h.block⟩
theorem Fr.alloc {F : Nat → Prop} {a w : World} (h : Fr F a w) (o : Obj) : Fr F a (w.alloc o) :=
  h.trans (G := fun _ => False) ⟨rfl, rfl, rfl, by simp, fun k hk _ => Below.heap_alloc _ _ _ hk⟩ (fun _ _ f => f.elim)
theorem Fr.setCell {F : Nat → Prop} {a w : World} (h : Fr F a w) {p : Addr} (hp : p.block < a.heap.size → F p.block) (u : Value) : Fr F a (w.setCell p u) :=
  h.trans (G := fun k => k = p.block) ⟨rfl, rfl, rfl, by simp [World.setCell], fun k _ hn => Below.heap_setCell _ _ _ _ hn⟩ (fun i hi e => by subst e; exact hp hi)
theorem Fr.grown {F : Nat → Prop} {a w w' : World} {row : Option Nat} (h : Fr F a w) (hg : w.grownBy w' row) (hr : ∀ k, row = some k → k < a.heap.size → F k) : Fr F a w' :=
  h.trans (G := fun k => row = some k) ⟨hg.os, hg.tape, hg.output, hg.size, fun k hk hn => hg.block k hk (fun e => hn e.symm)⟩ (fun i hi e => hr i e hi)
theorem Fr.cell {F : Nat → Prop} {w w' : World} (h : Fr F w w') {p : Addr} {v : Value} (hc : w.cell? p = some v) (hp : ¬ F p.block) : w'.cell? p = some v := by
  have hlt := World.block_lt_of_cell? w p hc
  rw [World.cell?_of_block (h.block p.block hlt hp)]; exact hc
theorem Fr.get {F : Nat → Prop} {w w' : World} (h : Fr F w w') {k : Nat} {o : Obj} (hc : w.heap[k]? = some o) (hp : ¬ F k) : w'.heap[k]? = some o := by
  rw [h.block k (Array.getElem?_eq_some_iff.1 hc).1 hp]; exact hc
theorem Fr.lt {F : Nat → Prop} {w w' : World} (h : Fr F w w') {k : Nat} (hk : k < w.heap.size) : k < w'.heap.size := Nat.lt_of_lt_of_le hk h.size
/-- nothing that was there has turned -/
abbrev Grew (w w' : World) : Prop := Fr (fun _ => False) w w'
theorem Fr.below {w w' : World} (h : Grew w w') : Below w.heap.size w w' := ⟨h.os, h.tape, h.output, h.size, fun k hk => h.block k hk (fun f => f)⟩
theorem Grew.any {F : Nat → Prop} {w w' : World} (h : Grew w w') : Fr F w w' := h.mono (fun _ _ f => f.elim)

theorem lt_of_get {w : World} {k : Nat} {o : Obj} (hc : w.heap[k]? = some o) : k < w.heap.size := (Array.getElem?_eq_some_iff.1 hc).1

theorem cell_of_get {w : World} {b : Nat} {c : Array Value} {t : TypeId} {f : Nat × Nat} (h : w.heap[b]? = some (.cells c t f)) (i : Nat) : w.cell? ⟨b, i, none⟩ = c[i]? := by
  simp [World.cell?, h]
theorem frozen_of_get {w : World} {b : Nat} {c : Array Value} {t : TypeId} (h : w.heap[b]? = some (.cells c t (0, 0))) (i : Nat) : w.frozen? ⟨b, i, none⟩ = false := by
  simp [World.frozen?, h]

/-- A ROW OF INTS: the slice v reads as l; whatever it leads to is a block of its own. -/
def Ow (w : World) (v : Value) (l : List Int) : Prop := w.ownsRow 0 3 1 v l.length (l.map Kv)

theorem Ow.nil (w : World) : Ow w (.slice none 0 0) [] := World.ownsRow_nil w 0 3 1

theorem Ow.parts {w : World} {v : Value} {l : List Int} (h : Ow w v l) : (v = .slice none 0 0 ∧ l = []) ∨
    ∃ g cap cur, v = .slice (some ⟨g, 0, none⟩) l.length cap ∧ w.heap[g]? = some (.cells cur 3 (0, 0)) ∧ l.length ≤ cap ∧ cap ≤ maxLen ∧ cur.size = cap ∧ ∀ i (hi : i < l.length), cur[i]? = some (Kv l[i]) := by
  rcases h.2 with ⟨h1, h2⟩ | ⟨g, cap, cur, hv, _, hg, hn, hm, hs, ht⟩
  · exact .inl ⟨h1, List.eq_nil_of_length_eq_zero h2⟩
  · refine .inr ⟨g, cap, cur, hv, hg, hn, hm, by simpa using hs, fun i hi => ?_⟩
    have : (cur.toList.take (l.length * 1))[i]? = (l.map Kv)[i]? := by rw [ht]
    rw [List.getElem?_take_of_lt (by omega)] at this
    simpa [List.getElem?_eq_getElem hi] using this

theorem Ow.kept {w w' : World} {F : Nat → Prop} {v : Value} {l : List Int} (h : Ow w v l) (k : Fr F w w') (hF : ∀ g, v.ownBlock = some g → ¬ F g) : Ow w' v l := by
  refine ⟨h.1, ?_⟩
  rcases h.2 with hn | ⟨g, cap, cur, rfl, hb, hgg, rest⟩
  · exact .inl hn
  · exact .inr ⟨g, cap, cur, rfl, hb, k.get hgg (hF g rfl), rest⟩

theorem Ow.lt {w : World} {v : Value} {l : List Int} (h : Ow w v l) {g : Nat} (hg : v.ownBlock = some g) : g < w.heap.size := (World.ownsRow.lt h g hg).2

/-- a row read at a place -/
theorem Ow.at {w : World} {v : Value} {l : List Int} (h : Ow w v l) (hl : 0 < l.length) :
    ∃ g cap, v = .slice (some ⟨g, 0, none⟩) l.length cap ∧ l.length ≤ cap ∧ cap ≤ maxLen ∧ g < w.heap.size ∧ ∀ i (hi : i < l.length), w.cell? ⟨g, i, none⟩ = some (Kv l[i]) ∧ w.frozen? ⟨g, i, none⟩ = false := by
  rcases h.parts with ⟨_, h2⟩ | ⟨g, cap, cur, hv, hg, hn, hm, hs, hc⟩
  · subst h2; simp at hl
  · exact ⟨g, cap, hv, hn, hm, lt_of_get hg, fun i hi => ⟨by rw [cell_of_get hg]; exact hc i hi, frozen_of_get hg i⟩⟩

/-- whatever it is, it is a slice of so many -/
theorem Ow.shape {w : World} {v : Value} {l : List Int} (h : Ow w v l) : ∃ a cap, v = .slice a l.length cap ∧ l.length ≤ cap ∧ cap ≤ maxLen := by
  rcases h.parts with ⟨h1, h2⟩ | ⟨g, cap, cur, hv, hg, hn, hm, hs, hc⟩
  · subst h2; exact ⟨none, 0, h1, Nat.le_refl _, by simp [maxLen]⟩
  · exact ⟨_, cap, hv, hn, hm⟩

/-! maps keyed by ints -/

/-- the entries of a map block hold these pairs, in the order in which they came -/
def Ents (es : Array MapEntry) (kv : List (Int × Value)) : Prop := es.toList.map (fun e => (e.key, e.val)) = kv.map (fun p => (Kv p.1, p.2))

def lookKV (k : Int) : List (Int × Value) → Option Value
  | [] => none
  | p :: r => if k = p.1 then some p.2 else lookKV k r

theorem findNow_ents (k : Int) : ∀ (l : List MapEntry) (kv : List (Int × Value)) (i : Nat), l.map (fun e => (e.key, e.val)) = kv.map (fun p => (Kv p.1, p.2)) →
    ∃ r, Instr.findNow (.int .i64) (Kv k) l i = some r ∧ r.map (·.2) = lookKV k kv
  | [], kv, i, h => by
    cases kv with
    | nil => exact ⟨none, rfl, rfl⟩
    | cons p r => simp at h
  | e :: l, kv, i, h => by
    cases kv with
    | nil => simp at h
    | cons p r =>
      simp only [List.map_cons, List.cons.injEq, Prod.mk.injEq] at h
      obtain ⟨⟨h1, h2⟩, h3⟩ := h
      by_cases hk : k = p.1
      · exact ⟨some (i, e.val), by simp [Instr.findNow, Instr.sameNow, h1, hk], by simp [lookKV, hk, h2]⟩
      · obtain ⟨r', h4, h5⟩ := findNow_ents k l r (i + 1) h3
        have hb : (k == p.1) = false := by simpa using hk
        exact ⟨r', by simp [Instr.findNow, Instr.sameNow, h1, hb, h4], by simp [lookKV, hk, h5]⟩

theorem checkKey_int (P : Program) (h3 : P.underlying 3 = some (.int .i64)) (b : Bool) (k : Int) (w : World) : (Instr.checkKey b 10000 3 (Kv k)).run P w = .ok () w := by
  unfold Instr.checkKey
  simp [run_underlying h3]

theorem run_look (P : Program) (h3 : P.underlying 3 = some (.int .i64)) {T e : TypeId} (hT : P.underlying T = some (.map 3 e)) {z : Value} {w : World} (hz : (zeroValue e).run P w = .ok z w)
    {b : Nat} {es : Array MapEntry} {clock : Nat} (hb : w.heap[b]? = some (.map es clock)) {kv : List (Int × Value)} (he : Ents es kv) (k : Int) (ok : Bool) :
    (Instr.lookup T (.map (some b)) (Kv k) ok).run P w = .ok (if ok then .tuple #[(lookKV k kv).getD z, .bool (lookKV k kv).isSome] else (lookKV k kv).getD z) w := by
  obtain ⟨r, h1, h2⟩ := findNow_ents k es.toList kv 0 he
  have hf := MapKept.run_findKey (w := w) h3 h1
  have hg : (getObj b).run P w = .ok (.map es clock) w := by simp [getObj, Sem.run, hb]
  have hck := checkKey_int P h3
  unfold Instr.lookup
  cases r with
  | none =>
    simp only [Option.map_none] at h2
    simp [run_underlying hT, hg, hck, hf, hz, ← h2]
  | some p =>
    simp only [Option.map_some] at h2
    simp [run_underlying hT, hg, hck, hf, ← h2]

theorem Ents.push {es : Array MapEntry} {kv : List (Int × Value)} (h : Ents es kv) (k : Int) (v : Value) (c : Nat) : Ents (es.push { key := Kv k, val := v, born := c }) (kv ++ [(k, v)]) := by
  unfold Ents at *
  simp [h]

theorem Ents.nil : Ents #[] [] := rfl

/-- a store of a new key -/
theorem run_put (P : Program) (h3 : P.underlying 3 = some (.int .i64)) {T e : TypeId} (hT : P.underlying T = some (.map 3 e)) {w : World}
    {b : Nat} {es : Array MapEntry} {clock : Nat} (hb : w.heap[b]? = some (.map es clock)) {kv : List (Int × Value)} (he : Ents es kv) (k : Int) (v : Value) (hk : lookKV k kv = none) :
    (Instr.mapUpdate T (.map (some b)) (Kv k) v).run P w = .ok () { w with heap := w.heap.setIfInBounds b (.map (es.push { key := Kv k, val := v, born := clock }) (clock + 1)) } := by
  obtain ⟨r, h1, h2⟩ := findNow_ents k es.toList kv 0 he
  have hf := MapKept.run_findKey (w := w) h3 h1
  have hg : (getObj b).run P w = .ok (.map es clock) w := by simp [getObj, Sem.run, hb]
  have hs : ∀ o, (setObj b o).run P w = .ok () { w with heap := w.heap.setIfInBounds b o } := fun o => by simp [setObj, Sem.run, hb]
  have hck := checkKey_int P h3
  rw [hk] at h2
  cases r with
  | some p => simp at h2
  | none =>
    unfold Instr.mapUpdate
    simp [run_underlying hT, hg, hck, hf, hs]

/-- the block of an object that is no row of cells is written -/
def putO (w : World) (b : Nat) (o : Obj) : World := { w with heap := w.heap.setIfInBounds b o }
theorem putO_get {w : World} {b : Nat} (h : b < w.heap.size) (o : Obj) : (putO w b o).heap[b]? = some o := by
  simp [putO, h]
theorem putO_other {w : World} {b k : Nat} (h : k ≠ b) (o : Obj) : (putO w b o).heap[k]? = w.heap[k]? := by
  simp only [putO]
  rw [Array.getElem?_setIfInBounds_ne (Ne.symm h)]
theorem Fr.putO {F : Nat → Prop} {a w : World} (h : Fr F a w) {b : Nat} (hb : b < a.heap.size → F b) (o : Obj) : Fr F a (putO w b o) :=
  h.trans (G := fun k => k = b) ⟨rfl, rfl, rfl, by simp [Ytjhdnbediipibaa.putO], fun _ _ hn => putO_other hn o⟩ (fun i hi e => by subst e; exact hb hi)
theorem putO_size (w : World) (b : Nat) (o : Obj) : (putO w b o).heap.size = w.heap.size := by simp [putO]

/-- len of a map -/
theorem run_lenMap (P : Program) {w : World} {b : Nat} {es : Array MapEntry} {clock : Nat} (hb : w.heap[b]? = some (.map es clock)) {T k e : TypeId} (hT : P.underlying T = some (.map k e)) (ty : TypeId) :
    (Builtin.len_ #[T] ty #[.map (some b)]).run P w = .ok (Kv es.size) w := by
  have hg : (getObj b).run P w = .ok (.map es clock) w := by simp [getObj, Sem.run, hb]
  simp [Builtin.len_, run_underlying hT, hg, goInt]
end Go.Proofs.Ytjhdnbediipibaa
