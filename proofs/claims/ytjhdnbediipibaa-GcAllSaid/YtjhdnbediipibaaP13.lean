import Derived.Test.YtjhdnbediipibaaP12
import Derived.Test.YtjhdnbediipibaaK2
/-! The queue of what is reached: what holds round by round. -/
namespace Go.Proofs.Ytjhdnbediipibaa
open Go.RowKit

/-- marks: just those of S are set -/
def MarkS (w : World) (sb n : Nat) (S : List Int) : Prop := ∃ cur : Array Value, w.heap[sb]? = some (.cells cur 4 (0, 0)) ∧ cur.size = n ∧ ∀ j, j < n → cur[j]? = some (.bool (decide ((j : Int) ∈ S)))
theorem MarkS.kept {w w' : World} {sb n : Nat} {S : List Int} {F : Nat → Prop} (h : MarkS w sb n S) (k : Fr F w w') (hF : ¬ F sb) : MarkS w' sb n S := by
  obtain ⟨cur, h1, h2, h3⟩ := h
  exact ⟨cur, k.get h1 hF, h2, h3⟩
theorem MarkS.at {w : World} {sb n : Nat} {S : List Int} (h : MarkS w sb n S) {j : Nat} (hj : j < n) {b : Bool} (hb : decide ((j : Int) ∈ S) = b) : w.cell? ⟨sb, j, none⟩ = some (.bool b) ∧ w.frozen? ⟨sb, j, none⟩ = false := by
  obtain ⟨cur, h1, h2, h3⟩ := h
  exact ⟨by rw [cell_of_get h1, h3 j hj, hb], frozen_of_get h1 j⟩
theorem MarkS.set {w : World} {sb n : Nat} {S : List Int} (h : MarkS w sb n S) (j : Nat) : MarkS (w.setCell ⟨sb, j, none⟩ (.bool true)) sb n (S ++ [(j : Int)]) := by
  obtain ⟨cur, h1, h2, h3⟩ := h
  refine ⟨cur.setIfInBounds j (.bool true), setCell_get h1 j _, by simpa using h2, fun i hi => ?_⟩
  by_cases e : j = i
  · subst e
    rw [Array.getElem?_setIfInBounds_self_of_lt (by omega)]; simp
  · rw [Array.getElem?_setIfInBounds_ne e, h3 i hi]
    have : ¬ (i : Int) = j := by omega
    simp [this]
theorem MarkS.new (w : World) (n : Nat) : MarkS (w.alloc (.cells (madeCells #[.bool false] n) 4)) w.heap.size n [] := by
  have ht := toList_madeCells_one (.bool false) n
  refine ⟨_, heap_alloc_new w _, ?_, fun j hj => ?_⟩
  · rw [← Array.length_toList, ht]; simp
  · rw [← Array.getElem?_toList, ht]; simp [hj]

/-- what was queued, what was seen, behind i rounds -/
structure Queue (B : AH) (T : List Int) (i : Nat) (Q S : List Int) : Prop where
  wf : B.WF
  used : B.used ≤ 300
  tl : T.length ≤ 6
  nodup : S.Nodup
  has : ∀ q ∈ Q, B.has q
  sub : ∀ s ∈ S, s ∈ Q
  top : ∀ t ∈ T, t ∈ Q
  next : ∀ s ∈ S, ∀ p ∈ B.ptrs s, p ∈ Q
  done : ∀ j (h : j < Q.length), j < i → Q[j] ∈ S
  len : (Q.length : Int) ≤ 6 + sumAt B S
  le : i ≤ Q.length

theorem Queue.start {B : AH} {T : List Int} (h : B.WF) (hu : B.used ≤ 300) (hT : T.length ≤ 6) (ht : ∀ t ∈ T, B.has t) : Queue B T 0 T [] :=
  ⟨h, hu, hT, by simp, ht, by simp, fun _ h => h, by simp, fun j _ h => by omega, by simp only [sumAt]; omega, Nat.zero_le _⟩
theorem Queue.few {B : AH} {T : List Int} {i : Nat} {Q S : List Int} (q : Queue B T i Q S) : Q.length ≤ 306 := by
  have h1 := sumAt_sub B S _ q.nodup (fun s hs => has_iff.1 (q.has s (q.sub s hs)))
  rw [sumAt_all q.wf] at h1
  have h2 := q.wf.sum
  have h3 := q.len
  have h4 := q.used
  omega
theorem Queue.again {B : AH} {T : List Int} {i : Nat} {Q S : List Int} (q : Queue B T i Q S) (hi : i < Q.length) (hs : Q[i] ∈ S) : Queue B T (i + 1) Q S :=
  { q with
    done := fun j hj hji => by
      by_cases e : j = i
      · subst e; exact hs
      · exact q.done j hj (by omega)
    le := hi }
theorem Queue.more {B : AH} {T : List Int} {i : Nat} {Q S : List Int} (q : Queue B T i Q S) (hi : i < Q.length) (hs : Q[i] ∉ S) : Queue B T (i + 1) (Q ++ B.ptrs Q[i]) (S ++ [Q[i]]) := by
  have hh := q.has _ (List.getElem_mem hi)
  refine ⟨q.wf, q.used, q.tl, ?_, ?_, ?_, fun t ht => List.mem_append_left _ (q.top t ht), ?_, ?_, ?_, ?_⟩
  · rw [List.nodup_append]
    refine ⟨q.nodup, by simp, fun a ha b hb e => ?_⟩
    simp at hb
    subst hb; subst e
    exact hs ha
  · intro x hx
    rcases List.mem_append.1 hx with hx | hx
    · exact q.has x hx
    · exact q.wf.ptr_has hx
  · intro s h
    rcases List.mem_append.1 h with h | h
    · exact List.mem_append_left _ (q.sub s h)
    · simp at h; subst h
      exact List.mem_append_left _ (List.getElem_mem hi)
  · intro s h p hp
    rcases List.mem_append.1 h with h | h
    · exact List.mem_append_left _ (q.next s h p hp)
    · simp at h; subst h
      exact List.mem_append_right _ hp
  · intro j hj hji
    by_cases e : j = i
    · subst e
      rw [List.getElem_append_left hi]; simp
    · have hjl : j < Q.length := by omega
      rw [List.getElem_append_left hjl]
      exact List.mem_append_left _ (q.done j hjl (by omega))
  · rw [List.length_append, sumAt_append]
    have h1 := q.len
    have h2 : ((B.ptrs Q[i]).length : Int) ≤ (B.obj Q[i]).sz := by
      rw [(ptrs_obj hh).1]; unfold HObj.sz osz; omega
    simp only [sumAt, Int.add_zero]
    push_cast
    omega
  · rw [List.length_append]; omega
/-- at its end: all that is there was seen -/
theorem Queue.all {A : AH} {d : Nat} {roots : List Int} (h : A.WF) (hr : ∀ k ∈ roots, A.has k) {i : Nat} {Q S : List Int} (q : Queue (A.gcd d (A.final d roots)) (A.told d roots) i Q S) (hi : ¬ i < Q.length)
    {y : Int} (hy : (A.gcd d (A.final d roots)).has y) : y ∈ S := by
  have hQ : ∀ x ∈ Q, x ∈ S := by
    intro x hx
    obtain ⟨j, hj, rfl⟩ := List.mem_iff_getElem.1 hx
    exact q.done j hj (by omega)
  exact reach_law h hr (Ψ := fun x => x ∈ S) (fun t ht => hQ t (q.top t ht)) (fun x _ hx p hp => hQ p (q.next x hx p hp)) hy

/-- what holds in memory: both heaps, the queue, the row of keys, the marks, each by itself -/
structure RM (w : World) (hb ob : Nat) (A B : AH) (f1 f4 : List Nat) (sb n : Nat) (kv : Value) (ks : List Int) (qv : Value) (Q S : List Int) (wr : World) : Prop where
  a : PH wr hb A f1
  b : PH wr ob B f4
  tri : Tri w.heap.size (sb :: (f1 ++ f4)) wr qv kv (.slice none 0 0) Q ks []
  grew : Grew w wr
  marks : MarkS wr sb n S
theorem RM.more {w : World} {hb ob : Nat} {A B : AH} {f1 f4 : List Nat} {sb n : Nat} {kv : Value} {ks : List Int} {qv : Value} {Q S : List Int} {wr wx : World}
    (h : RM w hb ob A B f1 f4 sb n kv ks qv Q S wr) (k : Grew wr wx) : RM w hb ob A B f1 f4 sb n kv ks qv Q S wx :=
  ⟨h.a.grew k, h.b.grew k, h.tri.grew k, h.grew.trans k (fun _ _ f => f), h.marks.kept k (fun f => f)⟩
theorem RM.mark {w : World} {hb ob : Nat} {A B : AH} {f1 f4 : List Nat} {sb n : Nat} {kv : Value} {ks : List Int} {qv : Value} {Q S : List Int} {wr : World}
    (h : RM w hb ob A B f1 f4 sb n kv ks qv Q S wr) (hsb : sb ∉ f1 ++ f4) (hsw : w.heap.size ≤ sb) (m : Nat) :
    RM w hb ob A B f1 f4 sb n kv ks qv Q (S ++ [(m : Int)]) (wr.setCell ⟨sb, m, none⟩ (.bool true)) := by
  have hF : Fr (fun k => k = sb) wr (wr.setCell ⟨sb, m, none⟩ (.bool true)) := (Fr.refl (fun k => k = sb) wr).setCell (p := ⟨sb, m, none⟩) (fun _ => rfl) _
  exact ⟨h.a.kept hF (fun b hb e => hsb (by subst e; simp [hb])), h.b.kept hF (fun b hb e => hsb (by subst e; simp [hb])),
    ⟨h.tri.ra.kept hF (fun g hg e => (h.tri.ra.own g hg).2 (by subst e; simp)), h.tri.rb.kept hF (fun g hg e => (h.tri.rb.own g hg).2 (by subst e; simp)), h.tri.rc.kept hF (fun g hg e => (by cases hg)), h.tri.ab, h.tri.ac, h.tri.bc⟩,
    grew_step h.grew hF (fun i e => by subst e; exact hsw), h.marks.set m⟩
theorem RM.app {w : World} {hb ob : Nat} {A B : AH} {f1 f4 : List Nat} {sb n : Nat} {kv : Value} {ks : List Int} {qv : Value} {Q S : List Int} {wr : World}
    (h : RM w hb ob A B f1 f4 sb n kv ks qv Q S wr) {pv : Value} {p : List Int} (hp : Ow wr pv p) (hl : Q.length + p.length ≤ 17592186044416) :
    ∃ qv' w2, (Builtin.append_ #[22, 22] 22 #[qv, pv]).run Try.prog wr = .ok qv' w2 ∧ RM w hb ob A B f1 f4 sb n kv ks qv' (Q ++ p) S w2 := by
  have hlt : ∀ x ∈ sb :: (f1 ++ f4), x < wr.heap.size := by
    intro x hx
    simp only [List.mem_cons, List.mem_append] at hx
    rcases hx with rfl | hx | hx
    · obtain ⟨cur, e, _⟩ := h.marks; exact lt_of_get e
    · exact h.a.lt x hx
    · exact h.b.lt x hx
  obtain ⟨qv', w2, happ, t1, f1'⟩ := h.tri.appx h.grew.size hlt hp hl 22
  have hfp : ∀ b ∈ sb :: (f1 ++ f4), qv.ownBlock ≠ some b := fun b hb e => (h.tri.ra.own b e).2 hb
  exact ⟨qv', w2, happ, h.a.kept f1' (fun b hb => hfp b (by simp [hb])), h.b.kept f1' (fun b hb => hfp b (by simp [hb])), t1, grew_step h.grew f1' (fun i e => (h.tri.ra.own i e).1), h.marks.kept f1' (hfp sb (by simp))⟩

/-- round by round -/
def ReachRel (w : World) (hb ob : Nat) (A B : AH) (T : List Int) (f1 f4 : List Nat) (sb n : Nat) (kv : Value) (i : Nat) (qv : Value) (wr : World) : Prop :=
  ∃ Q S : List Int, RM w hb ob A B f1 f4 sb n kv B.keys qv Q S wr ∧ Queue B T i Q S
end Go.Proofs.Ytjhdnbediipibaa
