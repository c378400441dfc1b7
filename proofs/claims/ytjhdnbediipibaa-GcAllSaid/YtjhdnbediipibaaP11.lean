import Derived.Test.YtjhdnbediipibaaP9
import Derived.Test.YtjhdnbediipibaaP10
import Derived.Deep.OwnRows
/-! GcSame: what its loop keeps. -/
namespace Go.Proofs.Ytjhdnbediipibaa
open Go.RowKit

/-- marks -/
def Marks (w : World) (sb n : Nat) : Prop := ∃ cur : Array Value, w.heap[sb]? = some (.cells cur 4 (0, 0)) ∧ cur.size = n ∧ ∀ j, j < n → ∃ b, cur[j]? = some (.bool b)
theorem Marks.kept {w w' : World} {sb n : Nat} {F : Nat → Prop} (h : Marks w sb n) (k : Fr F w w') (hF : ¬ F sb) : Marks w' sb n := by
  obtain ⟨cur, h1, h2⟩ := h
  exact ⟨cur, k.get h1 hF, h2⟩
theorem Marks.at {w : World} {sb n : Nat} (h : Marks w sb n) {j : Nat} (hj : j < n) : ∃ b, w.cell? ⟨sb, j, none⟩ = some (.bool b) ∧ w.frozen? ⟨sb, j, none⟩ = false := by
  obtain ⟨cur, h1, h2, h3⟩ := h
  obtain ⟨b, hb⟩ := h3 j hj
  exact ⟨b, by rw [cell_of_get h1]; exact hb, frozen_of_get h1 j⟩
theorem Marks.set {w : World} {sb n : Nat} (h : Marks w sb n) (j : Nat) (b : Bool) : Marks (w.setCell ⟨sb, j, none⟩ (.bool b)) sb n := by
  obtain ⟨cur, h1, h2, h3⟩ := h
  refine ⟨cur.setIfInBounds j (.bool b), setCell_get h1 j _, by simpa using h2, fun i hi => ?_⟩
  by_cases e : j = i
  · subst e
    exact ⟨b, by rw [Array.getElem?_setIfInBounds_self_of_lt (by omega)]⟩
  · rw [Array.getElem?_setIfInBounds_ne e]; exact h3 i hi
theorem Marks.new (w : World) (n : Nat) : Marks (w.alloc (.cells (madeCells #[.bool false] n) 4)) w.heap.size n := by
  have ht := toList_madeCells_one (.bool false) n
  refine ⟨_, heap_alloc_new w _, ?_, fun j hj => ⟨false, ?_⟩⟩
  · rw [← Array.length_toList, ht]; simp
  · rw [← Array.getElem?_toList, ht]; simp [hj]
theorem make_marks (n : Nat) (hn : n ≤ 17592186044416) (w : World) :
    (Instr.makeSlice 49 (.int .i64 (n : Int)) (.int .i64 (n : Int))).run Try.prog w = .ok (.slice (some ⟨w.heap.size, 0, none⟩) n n) (w.alloc (.cells (madeCells #[.bool false] n) 4)) :=
  run_make_row' (P := Try.prog) 49 4 (.bool false) 1 (by kernel_rfl) (by kernel_rfl) rfl .i64 .i64 n (by omega) (by omega) w

/-- an append onto the first of three, its frame told -/
theorem Tri.appx {B : Nat} {fp : List Nat} {w : World} {a b c u : Value} {la lb lc m : List Int} (t : Tri B fp w a b c la lb lc) (hB : B ≤ w.heap.size) (hfp : ∀ x ∈ fp, x < w.heap.size) (k : Ow w u m) (hb : la.length + m.length ≤ 17592186044416) (ty : TypeId) :
    ∃ a' w', (Builtin.append_ #[22, 22] ty #[a, u]).run Try.prog w = .ok a' w' ∧ Tri B fp w' a' b c (la ++ m) lb lc ∧ Fr (fun x => a.ownBlock = some x) w w' := by
  obtain ⟨a', w', h1, h2, h3, h4⟩ := t.ra.app hB hfp k hb ty
  refine ⟨a', w', h1, ⟨h2, t.rb.kept h3 (fun g hg e => t.ab g e hg), t.rc.kept h3 (fun g hg e => t.ac g e hg), fun g hg => ?_, fun g hg => ?_, t.bc⟩, h3⟩
  · rcases h4 g hg with e | e
    · exact t.ab g e
    · exact fun hb' => by have := t.rb.ow.lt hb'; omega
  · rcases h4 g hg with e | e
    · exact t.ac g e
    · exact fun hb' => by have := t.rc.ow.lt hb'; omega

/-- a round of GcSame -/
def SameRel (w : World) (hb ob : Nat) (A B : AH) (f1 f4 : List Nat) (sb n : Nat) (s : CS) (i : Nat) (ov nv : Value) (wr : World) : Prop :=
  ∃ old now : List Int, PH wr hb A f1 ∧ PH wr ob B f4 ∧ Tri w.heap.size (sb :: (f1 ++ f4)) wr ov nv (.slice none 0 0) old now [] ∧ Grew w wr ∧ Marks wr sb n ∧
    old.length ≤ 6 + 60 * i ∧ i ≤ old.length ∧ now.length = old.length ∧ ∀ p ∈ old.zip now, Pair A s p.1 p.2

theorem SameRel.grew {w : World} {hb ob : Nat} {A B : AH} {f1 f4 : List Nat} {sb n : Nat} {s : CS} {i : Nat} {ov nv : Value} {wr wx : World}
    (h : SameRel w hb ob A B f1 f4 sb n s i ov nv wr) (k : Grew wr wx) : SameRel w hb ob A B f1 f4 sb n s i ov nv wx := by
  obtain ⟨old, now, h1, h2, h3, h4, h5, h6⟩ := h
  exact ⟨old, now, h1.grew k, h2.grew k, h3.grew k, h4.trans k (fun _ _ f => f), h5.kept k (fun f => f), h6⟩
/-- the next round, nothing more to look at -/
theorem SameRel.next {w : World} {hb ob : Nat} {A B : AH} {f1 f4 : List Nat} {sb n : Nat} {s : CS} {i : Nat} {ov nv : Value} {wr : World}
    (h : SameRel w hb ob A B f1 f4 sb n s i ov nv wr) {a : Option Addr} {m c : Nat} (e : ov = .slice a m c) (hlt : i < m) : SameRel w hb ob A B f1 f4 sb n s (i + 1) ov nv wr := by
  obtain ⟨old, now, h1, h2, h3, h4, h5, h6, h7, h8⟩ := h
  obtain ⟨a', c', e', _⟩ := h3.ra.ow.shape
  rw [e] at e'
  simp only [Value.slice.injEq] at e'
  have := e'.2.1
  exact ⟨old, now, h1, h2, h3, h4, h5, by omega, by omega, h8⟩
/-- the next round, with more -/
theorem SameRel.more {w : World} {hb ob : Nat} {A B : AH} {f1 f4 : List Nat} {sb n : Nat} {s : CS} {i : Nat} {ov nv pv qv : Value} {wr : World} {old now p q : List Int}
    (h1 : PH wr hb A f1) (h2 : PH wr ob B f4) (h3 : Tri w.heap.size (sb :: (f1 ++ f4)) wr ov nv (.slice none 0 0) old now []) (h4 : Grew w wr) (h5 : Marks wr sb n)
    (h6 : old.length ≤ 6 + 60 * i) (h7 : i < old.length) (h8 : now.length = old.length) (h9 : ∀ p ∈ old.zip now, Pair A s p.1 p.2)
    (hsb : sb ∉ f1 ++ f4) (hsw : w.heap.size ≤ sb) (_hfw : ∀ b ∈ f1 ++ f4, w.heap.size ≤ b) (hi : i < 3000) (m : Nat)
    (hp : Ow wr pv p) (hq : Ow wr qv q) (hpq : q.length = p.length) (hp60 : p.length ≤ 60) (hpz : ∀ z ∈ p.zip q, Pair A s z.1 z.2)
    (hps : ∀ g, pv.ownBlock = some g → g ≠ sb) (hqs : ∀ g, qv.ownBlock = some g → g ≠ sb) (hqo : ∀ g, qv.ownBlock = some g → ov.ownBlock ≠ some g) :
    ∃ ov' nv' w1 w2, (Builtin.append_ #[22, 22] 22 #[ov, pv]).run Try.prog (wr.setCell ⟨sb, m, none⟩ (.bool true)) = .ok ov' w1 ∧ (Builtin.append_ #[22, 22] 22 #[nv, qv]).run Try.prog w1 = .ok nv' w2 ∧
      SameRel w hb ob A B f1 f4 sb n s (i + 1) ov' nv' w2 := by
  have hF : Fr (fun k => k = sb) wr (wr.setCell ⟨sb, m, none⟩ (.bool true)) := (Fr.refl (fun k => k = sb) wr).setCell (p := ⟨sb, m, none⟩) (fun _ => rfl) _
  have hsbm : sb ∈ sb :: (f1 ++ f4) := by simp
  have k1 := h1.kept hF (fun b hb e => hsb (by subst e; simp [hb]))
  have k2 := h2.kept hF (fun b hb e => hsb (by subst e; simp [hb]))
  have k3 : Tri w.heap.size (sb :: (f1 ++ f4)) (wr.setCell ⟨sb, m, none⟩ (.bool true)) ov nv (.slice none 0 0) old now [] :=
    ⟨h3.ra.kept hF (fun g hg e => (h3.ra.own g hg).2 (by subst e; simp)), h3.rb.kept hF (fun g hg e => (h3.rb.own g hg).2 (by subst e; simp)), h3.rc.kept hF (fun g hg e => (by cases hg)), h3.ab, h3.ac, h3.bc⟩
  have k4 := grew_step h4 hF (fun i e => by subst e; exact hsw)
  have k5 := h5.set m true
  have hpr := hp.kept hF hps
  have hqr := hq.kept hF hqs
  have hlt : ∀ x ∈ sb :: (f1 ++ f4), x < (wr.setCell ⟨sb, m, none⟩ (.bool true)).heap.size := by
    intro x hx
    simp only [List.mem_cons, List.mem_append] at hx
    rcases hx with rfl | hx | hx
    · obtain ⟨cur, e, _⟩ := k5; exact lt_of_get e
    · exact k1.lt x hx
    · exact k2.lt x hx
  obtain ⟨ov', w1, happ, t1, f1'⟩ := k3.appx k4.size hlt hpr (by omega) 22
  have hfp : ∀ b ∈ sb :: (f1 ++ f4), ov.ownBlock ≠ some b := fun b hb e => (h3.ra.own b e).2 hb
  have j1 := k1.kept f1' (fun b hb => hfp b (by simp [hb]))
  have j2 := k2.kept f1' (fun b hb => hfp b (by simp [hb]))
  have j4 := grew_step k4 f1' (fun i e => (h3.ra.own i e).1)
  have j5 := k5.kept f1' (hfp sb hsbm)
  have hqr2 := hqr.kept f1' hqo
  have hlt2 : ∀ x ∈ sb :: (f1 ++ f4), x < w1.heap.size := fun x hx => Nat.lt_of_lt_of_le (hlt x hx) f1'.size
  obtain ⟨nv', w2, happ2, t2, f2'⟩ := t1.rot.appx j4.size hlt2 hqr2 (by omega) 22
  have hfp2 : ∀ b ∈ sb :: (f1 ++ f4), nv.ownBlock ≠ some b := fun b hb e => (h3.rb.own b e).2 hb
  refine ⟨ov', nv', w1, w2, happ, happ2, old ++ p, now ++ q, j1.kept f2' (fun b hb => hfp2 b (by simp [hb])), j2.kept f2' (fun b hb => hfp2 b (by simp [hb])), t2.rot.rot, grew_step j4 f2' (fun i e => (h3.rb.own i e).1), j5.kept f2' (hfp2 sb hsbm), ?_, ?_, ?_, ?_⟩
  · rw [List.length_append]; omega
  · rw [List.length_append]; omega
  · rw [List.length_append, List.length_append]; omega
  · intro z hz
    rw [List.zip_append h8.symm] at hz
    rcases List.mem_append.1 hz with e | e
    · exact h9 z e
    · exact hpz z e
end Go.Proofs.Ytjhdnbediipibaa
