import Derived.WalkKit
import Derived.StillTail
/-! A region that draws its order: by facts. Each operation but a tail of the text's end is met alone, in whatever world of a class that the others keep, knowing of its operands what their own operations left. -/
namespace Go.Proofs.Ytddcfnjmppijjaa.Rg
open Go.RowKit

section
variable {P : Program}

/-- what is known of the operands -/
def Rd (F : Tmp → Value → World → Prop) (a : Act) (w : World) : List Operand → Prop
  | [] => True
  | .tmp t :: r => F t (a.tmps.getD t undef) w ∧ Rd F a w r
  | _ :: r => Rd F a w r

/-- an operation comes to a value -/
def Yields (P : Program) (o : Oper) (a : Act) (w : World) (G : Value → World → Prop) : Prop :=
  match (execOp a.eval o).run P w with
  | .ok (.value v) w' => G v w'
  | .ok .skip w' => G undef w'
  | .ok (.enter f args) w' => Calls P f args w' fun e w'' => ∃ v, e = .returned v ∧ G v w''
  | _ => False

theorem Yields.wp {o : Oper} {a : Act} {w : World} {G : Value → World → Prop} {K : Act → World → Prop} {Q : Exit → Act → World → Prop} (h : Yields P o a w G)
    (hk : ∀ v w', G v w' → K (a.put o.dst v) w') : o.wp P a w K Q := by
  unfold Yields at h
  unfold Oper.wp
  generalize (execOp a.eval o).run P w = r at *
  cases r with
  | halt x w' => exact h.elim
  | ok n w' =>
    cases n <;> simp only [] at h <;> try exact h.elim
    · exact hk _ _ h
    · exact hk _ _ h
    · refine Calls.mono h ?_
      rintro e w'' ⟨v, rfl, hv⟩
      exact hk _ _ hv

/-- the slot that a guard reads -/
def guardSlot (l : List Oper) (o : Oper) : Option (Tmp × Bool) :=
  match o.guard with
  | none => none
  | some (g, want) => ((l[g]?).bind (·.dst)).map fun d => (d, want)

def OpGoal (P : Program) (l : List Oper) (St : World → World → Prop) (w0 : World) (F : Tmp → Value → World → Prop) (o : Oper) : Prop :=
  ∀ (a : Act) (w : World), St w0 w → Rd F a w o.op.operands.toList →
    match guardSlot l o with
    | none => Yields P o a w fun v w' => (∀ d, o.dst = some d → F d v w') ∧ St w w'
    | some (d, want) => F d (a.tmps.getD d undef) w → (a.tmps.getD d undef = .bool want → Yields P o a w fun v w' => (∀ d, o.dst = some d → F d v w') ∧ St w w') ∧
        (a.tmps.getD d undef ≠ .bool want → ∀ d, o.dst = some d → F d undef w)

def OpGoals (P : Program) (l : List Oper) (St : World → World → Prop) (w0 : World) (F : Tmp → Value → World → Prop) : List Oper → Prop
  | [] => True
  | o :: r => OpGoal P l St w0 F o ∧ OpGoals P l St w0 F r

/-- behind the head: each slot holds something of which its fact is known -/
def Behind (F : Tmp → Value → World → Prop) (K : Act → World → Prop) : List Oper → Act → World → Prop
  | [], a, w => K a w
  | o :: r, a, w => match o.dst with
    | none => Behind F K r a w
    | some d => ∀ v, F d v w → Behind F K r (a.put (some d) v) w

/-- may the rule be used? -/
def factsB (l : List Oper) (n : Nat) : Bool :=
  let head := l.take n
  let ds := head.filterMap (·.dst)
  Region.noSelect l.toArray && decide (n ≤ l.length) && decide ds.Nodup &&
  (List.range n).all (fun i => match l[i]? with
    | none => false
    | some o =>
      (o.after.all fun e => !Region.binds .any e || decide (e.on < i)) &&
      (o.op.operands.all fun x => match x with
        | .tmp t => !ds.contains t || o.after.any (fun e => Region.binds .any e && decide (e.on < n) && ((l[e.on]?).bind (·.dst)) == some t)
        | _ => true) &&
      (match o.guard with
        | none => true
        | some (g, _) => o.after.any (fun e => Region.binds .any e && e.on == g) && decide (g < n) && ((l[g]?).bind (·.dst)).isSome)) &&
  (decide (n = l.length) || (Region.sinkB .any l.toArray n && Region.chainB .any l.toArray n)) &&
  Region.seqB .any l.toArray (l.length - n) n ((List.range l.length).map fun i => decide (i < n)).toArray

theorem Rd.of {F : Tmp → Value → World → Prop} {a : Act} {w : World} : ∀ {xs : List Operand}, (∀ t, .tmp t ∈ xs → F t (a.tmps.getD t undef) w) → Rd F a w xs
  | [], _ => trivial
  | .tmp t :: r, h => ⟨h t (by simp), Rd.of (fun t' ht => h t' (by simp [ht]))⟩
  | .const _ :: r, h => Rd.of (xs := r) (fun t' ht => h t' (by simp [ht]))
  | .global _ :: r, h => Rd.of (xs := r) (fun t' ht => h t' (by simp [ht]))
  | .func _ :: r, h => Rd.of (xs := r) (fun t' ht => h t' (by simp [ht]))

theorem OpGoals.get {l : List Oper} {St : World → World → Prop} {w0 : World} {F : Tmp → Value → World → Prop} (r : List Oper) (h : OpGoals P l St w0 F r) (o : Oper) (ho : o ∈ r) : OpGoal P l St w0 F o := by
  induction r with
  | nil => cases ho
  | cons x r ih =>
    cases ho with
    | head => exact h.1
    | tail _ ho => exact ih h.2 ho

structure FInv (l : List Oper) (n : Nat) (St : World → World → Prop) (w0 : World) (F : Tmp → Value → World → Prop) (a0 : Act) (listed : Array Bool) (a : Act) (w : World) : Prop where
  st : St w0 w
  defers : a.defers = a0.defers
  size : a.tmps.size = a0.tmps.size
  old : ∀ t, t ∉ (l.take n).filterMap (·.dst) → a.tmps[t]? = a0.tmps[t]?
  fact : ∀ i o d, i < n → l[i]? = some o → listed.getD i false = true → o.dst = some d → F d (a.tmps.getD d undef) w

theorem put_getD_ne {a : Act} {d t : Tmp} (v : Value) (h : d ≠ t) : (a.put (some d) v).tmps.getD t undef = a.tmps.getD t undef := by
  simp [Act.put, Array.getElem?_setIfInBounds_ne h]
theorem put_get_ne {a : Act} {d t : Tmp} (v : Value) (h : d ≠ t) : (a.put (some d) v).tmps[t]? = a.tmps[t]? := by
  simp [Act.put, Array.getElem?_setIfInBounds_ne h]
theorem put_getD_eq {a : Act} {d : Tmp} (v : Value) (h : d < a.tmps.size) : (a.put (some d) v).tmps.getD d undef = v := by
  simp [Act.put, h]

theorem nodup_dst {l : List Oper} {n : Nat} (h : ((l.take n).filterMap (·.dst)).Nodup) {i j : Nat} {oi oj : Oper} {d : Tmp} (hi : i < n) (hj : j < n) (h1 : l[i]? = some oi) (h2 : l[j]? = some oj)
    (h3 : oi.dst = some d) (h4 : oj.dst = some d) : i = j := by
  have gen : ∀ (L : List Oper), (L.filterMap (·.dst)).Nodup → ∀ (i j : Nat) (oi oj : Oper), L[i]? = some oi → L[j]? = some oj → oi.dst = some d → oj.dst = some d → i = j := by
    intro L
    induction L with
    | nil => intro _ i j oi oj h1; simp at h1
    | cons o r ih =>
      intro hn i j oi oj h1 h2 h3 h4
      have hr : (r.filterMap (·.dst)).Nodup := by
        rw [List.filterMap_cons] at hn
        split at hn
        · exact hn
        · exact (List.nodup_cons.1 hn).2
      have hd : ∀ (k : Nat) (ok : Oper), r[k]? = some ok → ok.dst = some d → o.dst ≠ some d := by
        intro k ok hk hok ho
        rw [List.filterMap_cons, ho] at hn
        exact (List.nodup_cons.1 hn).1 (List.mem_filterMap.2 ⟨ok, List.mem_of_getElem? hk, hok⟩)
      cases i with
      | zero =>
        cases j with
        | zero => rfl
        | succ j => simp at h1 h2; subst h1; exact absurd h3 (hd j oj h2 h4)
      | succ i =>
        cases j with
        | zero => simp at h1 h2; subst h2; exact absurd h4 (hd i oi h1 h3)
        | succ j => simp at h1 h2; rw [ih hr i j oi oj h1 h2 h3 h4]
  exact gen (l.take n) h i j oi oj (by simp [hi, h1]) (by simp [hj, h2]) h3 h4

/-- the frame behind the head -/
theorem behind_of {F : Tmp → Value → World → Prop} {K : Act → World → Prop} : ∀ (L : List Oper) (a b : Act) (w : World), Behind F K L a w → b.defers = a.defers → b.tmps.size = a.tmps.size →
    (∀ t, t ∉ L.filterMap (·.dst) → b.tmps[t]? = a.tmps[t]?) → (∀ o ∈ L, ∀ d, o.dst = some d → F d (b.tmps.getD d undef) w) → K b w
  | [], a, b, w, h, h1, h2, h3, _ => by
    have : b = a := by
      cases a; cases b
      simp only at h1 h2 h3
      subst h1
      congr 1
      exact Array.ext_getElem? (fun i => h3 i (by simp))
    subst this; exact h
  | o :: r, a, b, w, h, h1, h2, h3, h4 => by
    cases ho : o.dst with
    | none =>
      simp only [Behind, ho] at h
      exact behind_of r a b w h h1 h2 (fun t ht => h3 t (by simpa [List.filterMap_cons, ho] using ht)) (fun o' ho' => h4 o' (by simp [ho']))
    | some d =>
      simp only [Behind, ho] at h
      refine behind_of r (a.put (some d) (b.tmps.getD d undef)) b w (h _ (h4 o (by simp) d ho)) h1 (by simpa [Act.put] using h2) (fun t ht => ?_) (fun o' ho' => h4 o' (by simp [ho']))
      by_cases htd : t = d
      · subst htd
        by_cases hlt : t < a.tmps.size
        · have hlt' : t < b.tmps.size := by rw [h2]; exact hlt
          simp [Act.put, hlt, hlt']
        · have hlt' : ¬ t < b.tmps.size := by rw [h2]; exact hlt
          simp [Act.put, hlt, hlt']
      · rw [put_get_ne _ (Ne.symm htd)]
        exact h3 t (by simp only [List.filterMap_cons, ho, List.mem_cons, not_or]; exact ⟨htd, ht⟩)


theorem facts_step {l : List Oper} {n i : Nat} {St : World → World → Prop} {w0 : World} {F : Tmp → Value → World → Prop} {a0 a : Act} {w : World} {listed : Array Bool} {o : Oper}
    (htr : ∀ a b c, St a b → St b c → St a c) (hmono : ∀ t v w w', St w w' → F t v w → F t v w') (hnd : ((l.take n).filterMap (·.dst)).Nodup)
    (hold : ∀ t, t ∉ (l.take n).filterMap (·.dst) → F t (a0.tmps.getD t undef) w0) (hrefl : ∀ a, St a a) (hsz : ∀ d ∈ (l.take n).filterMap (·.dst), d < a0.tmps.size)
    (inv : FInv l n St w0 F a0 listed a w) (hi : i < n) (ho : l[i]? = some o) (_hlen : listed.size = l.length)
    (hrd : ∀ t, .tmp t ∈ o.op.operands.toList → t ∈ (l.take n).filterMap (·.dst) → ∃ j oj, j < n ∧ l[j]? = some oj ∧ oj.dst = some t ∧ listed.getD j false = true)
    (hgd : ∀ g want, o.guard = some (g, want) → g < n ∧ ((l[g]?).bind (·.dst)).isSome ∧ listed.getD g false = true)
    (hg : OpGoal P l St w0 F o) {K : Act → World → Prop} {Q : Exit → Act → World → Prop} (hK : ∀ a' w', FInv l n St w0 F a0 (listed.setIfInBounds i true) a' w' → K a' w') :
    wpOp P l.toArray Q i K a w := by
  have hin : i < l.length := (List.getElem?_eq_some_iff.1 ho).1
  have hdin : ∀ d, o.dst = some d → d ∈ (l.take n).filterMap (·.dst) := fun d hd => List.mem_filterMap.2 ⟨o, List.mem_of_getElem? (show (l.take n)[i]? = some o by simp [hi, ho]), hd⟩
  -- the invariant behind the operation
  have hnext : ∀ v w', (∀ d, o.dst = some d → F d v w') → St w w' → FInv l n St w0 F a0 (listed.setIfInBounds i true) (a.put o.dst v) w' := by
    intro v w' hv hst
    refine ⟨htr _ _ _ inv.st hst, ?_, ?_, ?_, ?_⟩
    · cases hd : o.dst <;> simp [Act.put, inv.defers]
    · cases hd : o.dst <;> simp [Act.put, inv.size]
    · intro t ht
      cases hd : o.dst with
      | none => exact inv.old t ht
      | some d =>
        have hne : d ≠ t := fun e => ht (e ▸ hdin d hd)
        rw [put_get_ne v hne]; exact inv.old t ht
    · intro j oj d hj hoj hl hdj
      by_cases hij : i = j
      · subst hij
        have : oj = o := Option.some.inj (hoj.symm.trans ho)
        subst this
        rw [hdj]
        rw [put_getD_eq v (by rw [inv.size]; exact hsz d (hdin d hdj))]; exact hv d hdj
      · have hl' : listed.getD j false = true := by rw [getD_set_ne false hij] at hl; exact hl
        have hf := hmono _ _ _ _ hst (inv.fact j oj d hj hoj hl' hdj)
        cases hd : o.dst with
        | none => exact hf
        | some d' =>
          have hne : d' ≠ d := fun e => hij (nodup_dst hnd hi hj ho hoj hd (e ▸ hdj))
          rw [put_getD_ne v hne]; exact hf
  have hR : Rd F a w o.op.operands.toList := Rd.of (fun t ht => by
    by_cases hm : t ∈ (l.take n).filterMap (·.dst)
    · obtain ⟨j, oj, hj, hoj, hdj, hl⟩ := hrd t ht hm
      exact inv.fact j oj t hj hoj hl hdj
    · have e : a.tmps.getD t undef = a0.tmps.getD t undef := by
        have h := inv.old t hm
        rw [Array.getD_eq_getD_getElem?, Array.getD_eq_getD_getElem?, h]
      rw [e]
      exact hmono _ _ _ _ inv.st (hold t hm))
  have hgoal := hg a w inv.st hR
  unfold wpOp
  rw [show l.toArray[i]? = some o by simpa using ho]
  simp only []
  cases hgu : o.guard with
  | none =>
    have e : guardSlot l o = none := by simp [guardSlot, hgu]
    rw [e] at hgoal
    simp only [Region.wanted, hgu, if_true]
    exact .inl (Yields.wp hgoal (fun v w' h => hK _ _ (hnext v w' h.1 h.2)))
  | some gw =>
    obtain ⟨g, want⟩ := gw
    obtain ⟨hgn, hsome, hgl⟩ := hgd g want hgu
    obtain ⟨gd, hgdst⟩ := Option.isSome_iff_exists.1 hsome
    have e : guardSlot l o = some (gd, want) := by simp [guardSlot, hgu, hgdst]
    rw [e] at hgoal
    obtain ⟨og, hog⟩ : ∃ og, l[g]? = some og := by
      cases h : l[g]? with
      | none => simp [h] at hgdst
      | some og => exact ⟨og, rfl⟩
    have hogd : og.dst = some gd := by simpa [hog] using hgdst
    obtain ⟨h1, h2⟩ := hgoal (inv.fact g og gd hgn hog hgl hogd)
    have hy : yielded l.toArray a.tmps g = (match a.tmps[gd]? with | some (.bool b) => some b | _ => none) := by
      unfold yielded
      rw [show l.toArray[g]? = some og by simpa using hog]
      simp only [Option.bind_some, hogd]
      cases a.tmps[gd]? with
      | none => rfl
      | some u => cases u <;> rfl
    simp only [Region.wanted, hgu]
    by_cases hb : a.tmps.getD gd undef = .bool want
    · have hb' : a.tmps[gd]? = some (.bool want) := by
        cases h : a.tmps[gd]? with
        | none => simp [h, undef] at hb
        | some u => simpa [h] using hb
      rw [hy, hb']
      simp only [BEq.rfl, if_true]
      exact .inl (Yields.wp (h1 hb) (fun v w' h => hK _ _ (hnext v w' h.1 h.2)))
    · have hb' : (yielded l.toArray a.tmps g == some want) = false := by
        rw [hy]
        cases h : a.tmps[gd]? with
        | none => rfl
        | some u =>
          cases u <;> try rfl
          rename_i b
          have : b ≠ want := fun e => hb (by simp [h, e])
          simpa using this
      rw [hb']
      simp only [Bool.false_eq_true, if_false]
      exact hK _ _ (hnext undef w (h2 hb) (hrefl w))

/-- the unlisted of the head -/
theorem facts_any {l : List Oper} {n : Nat} {St : World → World → Prop} {w0 : World} {F : Tmp → Value → World → Prop} {a0 : Act} {Q : Exit → Act → World → Prop}
    (htr : ∀ a b c, St a b → St b c → St a c) (hmono : ∀ t v w w', St w w' → F t v w → F t v w') (hrefl : ∀ a, St a a)
    (hold : ∀ t, t ∉ (l.take n).filterMap (·.dst) → F t (a0.tmps.getD t undef) w0) (hsz : ∀ d ∈ (l.take n).filterMap (·.dst), d < a0.tmps.size)
    (hB : factsB l n = true) (hgs : OpGoals P l St w0 F (l.take n)) (hend : ∀ a w, FInv l n St w0 F a0 ((List.range l.length).map fun i => decide (i < n)).toArray a w → wpList P l.toArray Q (l.drop n) a w) :
    ∀ (todo : List Nat) (listed : Array Bool) (a : Act) (w : World), todo.Nodup → (∀ i, i ∈ todo ↔ i < n ∧ listed.getD i true = false) → HeadInv .any l.toArray n listed →
      FInv l n St w0 F a0 listed a w → wpAny P .any l.toArray Q (todo.length + (l.length - n)) listed a w := by
  have hB0 := hB
  simp only [factsB, Bool.and_eq_true, decide_eq_true_eq] at hB
  obtain ⟨⟨⟨⟨⟨hsel, hn⟩, hnd⟩, hops⟩, htail⟩, hseq⟩ := hB
  have hop : ∀ i, i < n → ∃ o, l[i]? = some o ∧ (∀ e ∈ o.after, Region.binds .any e = true → e.on < i) ∧
      (∀ t, .tmp t ∈ o.op.operands.toList → t ∈ (l.take n).filterMap (·.dst) → ∃ e ∈ o.after, Region.binds .any e = true ∧ e.on < n ∧ ((l[e.on]?).bind (·.dst)) = some t) ∧
      (∀ g want, o.guard = some (g, want) → (∃ e ∈ o.after, Region.binds .any e = true ∧ e.on = g) ∧ g < n ∧ ((l[g]?).bind (·.dst)).isSome) := by
    intro i hi
    have h := List.all_eq_true.1 hops i (List.mem_range.2 hi)
    cases ho : l[i]? with
    | none => rw [ho] at h; cases h
    | some o =>
      rw [ho] at h
      simp only [Bool.and_eq_true] at h
      obtain ⟨⟨h1, h2⟩, h3⟩ := h
      refine ⟨o, rfl, fun e he hb => ?_, fun t ht hm => ?_, fun g want hg => ?_⟩
      · have := Array.all_eq_true'.1 h1 e he
        simpa [hb] using this
      · have := Array.all_eq_true'.1 h2 (.tmp t) (Array.mem_toList_iff.1 ht)
        simp only [Bool.or_eq_true, Bool.not_eq_true'] at this
        rcases this with h | h
        · rw [List.contains_eq_mem] at h; simp only [decide_eq_false_iff_not] at h; exact absurd hm h
        · obtain ⟨e, he, hb⟩ := Array.any_eq_true'.1 h
          simp only [Bool.and_eq_true, decide_eq_true_eq, beq_iff_eq] at hb
          exact ⟨e, he, hb.1.1, hb.1.2, hb.2⟩
      · rw [hg] at h3
        simp only [Bool.and_eq_true, decide_eq_true_eq] at h3
        obtain ⟨e, he, hb⟩ := Array.any_eq_true'.1 h3.1.1
        simp only [Bool.and_eq_true, beq_iff_eq] at hb
        exact ⟨⟨e, he, hb.1, hb.2⟩, h3.1.2, h3.2⟩
  intro todo
  generalize hf : todo.length = f
  induction f generalizing todo with
  | zero =>
    intro listed a w _ hiff hinv inv
    have htodo : todo = [] := List.eq_nil_of_length_eq_zero hf
    subst htodo
    have hall : ∀ i, i < n → listed.getD i true = true := fun i hi => by
      cases h : listed.getD i true with
      | true => rfl
      | false => exact absurd ((hiff i).2 ⟨hi, h⟩) (by simp)
    have hL : listed = ((List.range l.length).map fun i => decide (i < n)).toArray := by
      apply Array.ext
      · simp [hinv.size]
      · intro i h1 h2
        have hil : i < l.length := by simpa using h2
        by_cases hi : i < n
        · have := hall i hi
          simp [h1] at this
          simp [this, hi]
        · have := hinv.tail i (by omega) (by simpa using hil)
          simp [h1] at this
          simp [this, hi]
    rw [Nat.zero_add]
    subst hL
    have hdl : (l.drop n).length = l.length - n := by simp
    rw [← hdl]
    exact wpAny_of_seq (md := .any) (Q' := Q) (l.drop n) n _ a w (fun j => by simp [List.getElem?_drop]) (by rw [hdl]; exact hseq) (hend a w inv)
  | succ f ih =>
    intro listed a w hnod hiff hinv inv
    rw [show f + 1 + (l.length - n) = (f + (l.length - n)) + 1 by omega]
    -- something is ready: the least that is not listed
    have hex : ∃ i, i ∈ todo := by
      cases todo with
      | nil => simp at hf
      | cons x r => exact ⟨x, by simp⟩
    have hready : Region.ready .any l.toArray listed ≠ [] := by
      obtain ⟨i0, hi0⟩ := hex
      have : ∀ k, ∀ i, i ≤ k → i ∈ todo → ∃ j, j ∈ Region.ready .any l.toArray listed := by
        intro k
        induction k with
        | zero =>
          intro i hik hi
          have hi' : i = 0 := by omega
          subst hi'
          obtain ⟨hin, hun⟩ := (hiff 0).1 hi
          obtain ⟨o, ho, he, _⟩ := hop 0 hin
          exact ⟨0, mem_ready.2 ⟨hun, o, by simpa using ho, fun e hem hb => absurd (he e hem hb) (by omega)⟩⟩
        | succ k ihk =>
          intro i hik hi
          obtain ⟨hin, hun⟩ := (hiff i).1 hi
          obtain ⟨o, ho, he, _⟩ := hop i hin
          by_cases hall : ∀ e ∈ o.after, Region.binds .any e = true → listed.getD e.on false = true
          · exact ⟨i, mem_ready.2 ⟨hun, o, by simpa using ho, hall⟩⟩
          · obtain ⟨e, hem, hb, hl⟩ : ∃ e ∈ o.after, Region.binds .any e = true ∧ listed.getD e.on false ≠ true := by
              apply Classical.byContradiction
              intro hno
              exact hall (fun e hem hb => Classical.byContradiction fun hl => hno ⟨e, hem, hb, hl⟩)
            have hlt := he e hem hb
            have hl' : listed.getD e.on false = false := by simpa using hl
            have hen : e.on < n := by omega
            exact ihk e.on (by omega) ((hiff e.on).2 ⟨hen, getD_in (by rw [hinv.size]; simp; omega) hl'⟩)
      obtain ⟨j, hj⟩ := this i0 i0 (Nat.le_refl _) hi0
      intro e
      rw [e] at hj
      cases hj
    refine ⟨fun h => absurd h hready, fun i hi => ?_⟩
    obtain ⟨i0, hi0⟩ := hex
    have hin : i < n := by
      by_cases hc : i < n
      · exact hc
      · exfalso
        obtain ⟨hi0n, hi0u⟩ := (hiff i0).1 hi0
        simp only [Bool.or_eq_true, decide_eq_true_eq, Bool.and_eq_true] at htail
        obtain ⟨_, o, ho, _⟩ := mem_ready.1 hi
        have hil : i < l.length := by
          have := (Array.getElem?_eq_some_iff.1 ho).1
          simpa using this
        rcases htail with h | ⟨h1, h2⟩
        · omega
        · exact tail_waits h1 h2 (by simp; omega) hinv (n - i0) i0 rfl hi0n hi0u i (by omega) hi
    obtain ⟨hun, o', ho', hall⟩ := mem_ready.1 hi
    obtain ⟨o, ho, he, hr, hg⟩ := hop i hin
    have hoo : o' = o := by
      have : l[i]? = some o' := by simpa using ho'
      exact Option.some.inj (this.symm.trans ho)
    subst hoo
    refine facts_step (n := n) htr hmono hnd hold hrefl hsz inv hin ho (by simpa using hinv.size) (fun t ht hm => ?_) (fun g want hgu => ?_)
      (OpGoals.get _ hgs o' (List.mem_of_getElem? (show (l.take n)[i]? = some o' by simp [hin, ho]))) (fun a' w' inv' => ?_)
    · obtain ⟨e, hem, hb, hen, hd⟩ := hr t ht hm
      cases hoj : l[e.on]? with
      | none => simp [hoj] at hd
      | some oj => exact ⟨e.on, oj, hen, hoj, by simpa [hoj] using hd, hall e hem hb⟩
    · obtain ⟨⟨e, hem, hb, heg⟩, h2, h3⟩ := hg g want hgu
      exact ⟨h2, h3, by rw [← heg]; exact hall e hem hb⟩
    · have hmem : i ∈ todo := (hiff i).2 ⟨hin, hun⟩
      refine ih (todo.erase i) (by rw [List.length_erase_of_mem hmem, hf]; omega) _ a' w' (hnod.erase i) (fun j => ?_) (hinv.set hi hin) inv'
      rw [hnod.mem_erase_iff, hiff j]
      by_cases hij : i = j
      · subst hij
        have hlt : i < listed.size := by rw [hinv.size]; simp; exact (List.getElem?_eq_some_iff.1 ho).1
        simp [hlt]
      · rw [getD_set_ne true hij]
        constructor
        · rintro ⟨_, h⟩; exact h
        · intro h; exact ⟨Ne.symm hij, h⟩

/-- what a slot holds: of those that are told what is told, else what it held -/
def Fk (a0 : Act) : List (Tmp × (Value → World → Prop)) → Tmp → Value → World → Prop
  | [], t, v, _ => v = a0.tmps.getD t undef
  | p :: r, t, v, w => if t = p.1 then p.2 v w else Fk a0 r t v w

theorem Fk.other {a0 : Act} {t : Tmp} {v : Value} {w : World} : ∀ {Φ : List (Tmp × (Value → World → Prop))}, t ∉ Φ.map (·.1) → (Fk a0 Φ t v w ↔ v = a0.tmps.getD t undef)
  | [], _ => Iff.rfl
  | p :: r, h => by
    have h1 : t ≠ p.1 := fun e => h (by simp [e])
    have h2 : t ∉ r.map (·.1) := fun e => h (by simp at e ⊢; exact .inr e)
    unfold Fk
    rw [if_neg h1]
    exact Fk.other h2

theorem Fk.mono {a0 : Act} {t : Tmp} {v : Value} {St : World → World → Prop} {w w' : World} (hs : St w w') : ∀ {Φ : List (Tmp × (Value → World → Prop))}, (∀ p ∈ Φ, ∀ v w w', St w w' → p.2 v w → p.2 v w') → Fk a0 Φ t v w → Fk a0 Φ t v w'
  | [], _, h => h
  | p :: r, hm, h => by
    unfold Fk at h ⊢
    split
    · rename_i e; rw [if_pos e] at h; exact hm p (by simp) v w w' hs h
    · rename_i e; rw [if_neg e] at h; exact Fk.mono hs (fun q hq => hm q (by simp [hq])) h

/-- behind the head: each slot that it writes holds something of which this is known -/
def Then (K : Act → World → Prop) : List (Tmp × (Value → World → Prop)) → Act → World → Prop
  | [], a, w => K a w
  | p :: r, a, w => ∀ v, p.2 v w → Then K r (a.put (some p.1) v) w

theorem then_of {a0 : Act} {K : Act → World → Prop} : ∀ (Φ : List (Tmp × (Value → World → Prop))) (a b : Act) (w : World), (Φ.map (·.1)).Nodup → Then K Φ a w → b.defers = a.defers → b.tmps.size = a.tmps.size →
    (∀ t, t ∉ Φ.map (·.1) → b.tmps[t]? = a.tmps[t]?) → (∀ p ∈ Φ, Fk a0 Φ p.1 (b.tmps.getD p.1 undef) w) → K b w
  | [], a, b, w, _, h, h1, h2, h3, _ => by
    have : b = a := by
      cases a; cases b
      simp only at h1 h2 h3
      subst h1
      congr 1
      exact Array.ext_getElem? (fun i => h3 i (by simp))
    subst this; exact h
  | p :: r, a, b, w, hn, h, h1, h2, h3, h4 => by
    have hn' := List.nodup_cons.1 hn
    have hp := h4 p (by simp)
    unfold Fk at hp
    rw [if_pos rfl] at hp
    refine then_of (a0 := a0) r (a.put (some p.1) (b.tmps.getD p.1 undef)) b w hn'.2 (h _ hp) h1 (by simpa [Act.put] using h2) (fun t ht => ?_) (fun q hq => ?_)
    · by_cases htd : t = p.1
      · subst htd
        by_cases hlt : p.1 < a.tmps.size
        · have hlt' : p.1 < b.tmps.size := by rw [h2]; exact hlt
          simp [Act.put, hlt, hlt']
        · have hlt' : ¬ p.1 < b.tmps.size := by rw [h2]; exact hlt
          simp [Act.put, hlt, hlt']
      · rw [put_get_ne _ (Ne.symm htd)]
        exact h3 t (by simp only [List.map_cons, List.mem_cons, not_or]; exact ⟨htd, ht⟩)
    · have hq' := h4 q (by simp [hq])
      have hne : q.1 ≠ p.1 := fun e => hn'.1 (List.mem_map.2 ⟨q, hq, e⟩)
      unfold Fk at hq'
      rw [if_neg hne] at hq'
      exact hq'

/-- THE RULE. n: how many operations the head has; Φ: what each slot that it writes holds, in the text's order -/
theorem wp_region_facts {id : Nat} {l : List Oper} {Q : Exit → Act → World → Prop} {a0 : Act} {w0 : World} (n : Nat) (St : World → World → Prop) (Φ : List (Tmp × (Value → World → Prop)))
    (hm : P.follows .mixedOrders = true) (hB : factsB l n = true) (hsz : (Φ.map (·.1)).all (fun d => decide (d < a0.tmps.size)) = true)
    (hdom : (l.take n).filterMap (·.dst) = Φ.map (·.1))
    (hrefl : ∀ a, St a a) (htr : ∀ a b c, St a b → St b c → St a c) (hdrew : St w0 w0.drew)
    (hmono : ∀ p ∈ Φ, ∀ v w w', St w w' → p.2 v w → p.2 v w')
    (hgs : OpGoals P l St w0 (Fk a0 Φ) (l.take n))
    (hend : ∀ w, St w0 w → Then (wpList P l.toArray Q (l.drop n)) Φ a0 w) :
    (Code.region id l.toArray true).wp P Q a0 w0 := by
  refine wp_region_any hm ?_
  have hB' := hB
  simp only [factsB, Bool.and_eq_true, decide_eq_true_eq] at hB'
  have hn : n ≤ l.length := hB'.1.1.1.1.2
  have hnd : (Φ.map (·.1)).Nodup := by rw [← hdom]; exact hB'.1.1.1.2
  have := facts_any (P := P) (l := l) (n := n) (St := St) (w0 := w0) (F := Fk a0 Φ) (a0 := a0) (Q := Q)
    htr (fun t v w w' hs h => Fk.mono hs hmono h) hrefl (fun t ht => (Fk.other (by rw [← hdom]; exact ht)).2 rfl) (fun d hd => by rw [hdom] at hd; have := List.all_eq_true.1 hsz d hd; simpa using this) hB hgs
    (fun a w inv => then_of (a0 := a0) Φ a0 a w hnd (hend w inv.st) inv.defers inv.size (fun t ht => inv.old t (by rw [hdom]; exact ht)) (fun p hp => by
      have hpd : p.1 ∈ (l.take n).filterMap (·.dst) := by rw [hdom]; exact List.mem_map.2 ⟨p, hp, rfl⟩
      obtain ⟨o, ho, hd⟩ := List.mem_filterMap.1 hpd
      obtain ⟨i, hi⟩ := List.mem_iff_getElem?.1 ho
      have hin : i < n := by
        have := (List.getElem?_eq_some_iff.1 hi).1
        simp at this; omega
      have hi' : l[i]? = some o := by simpa [hin] using hi
      have hil : i < l.length := (List.getElem?_eq_some_iff.1 hi').1
      exact inv.fact i o p.1 hin hi' (by simp [hil, hin]) hd))
    (List.range n) (Array.replicate l.toArray.size false) a0 w0.drew List.nodup_range (fun i => ?_) ?_ ?_
  · rw [List.length_range, show n + (l.length - n) = l.toArray.size by simp; omega] at this
    exact this
  · rw [List.mem_range]
    constructor
    · intro hi; exact ⟨hi, by simp [show i < l.length by omega]⟩
    · exact fun h => h.1
  · exact ⟨by simp, fun j oj _ hl => (by rw [getD_replicate_false] at hl; cases hl), fun t _ ht => getD_in (by simpa using ht) (getD_replicate_false _ _)⟩
  · exact ⟨hdrew, rfl, rfl, fun _ _ => rfl, fun i o d _ _ hl _ => (by rw [getD_replicate_false] at hl; cases hl)⟩

theorem OpGoals.none {l : List Oper} {St : World → World → Prop} {w0 : World} {F : Tmp → Value → World → Prop} : OpGoals P l St w0 F [] := trivial
theorem OpGoals.cons {l : List Oper} {St : World → World → Prop} {w0 : World} {F : Tmp → Value → World → Prop} {o : Oper} {r : List Oper} (h : OpGoal P l St w0 F o) (k : OpGoals P l St w0 F r) : OpGoals P l St w0 F (o :: r) := ⟨h, k⟩
/-- just this value -/
def Ex (c : Value) : Value → World → Prop := fun v _ => v = c

/-- what stays true while nothing that was there turns -/
def Stays (St : World → World → Prop) : List (Tmp × (Value → World → Prop)) → Prop
  | [] => True
  | p :: r => (∀ v w w', St w w' → p.2 v w → p.2 v w') ∧ Stays St r
theorem Stays.all {St : World → World → Prop} : ∀ {Φ : List (Tmp × (Value → World → Prop))}, Stays St Φ → ∀ p ∈ Φ, ∀ v w w', St w w' → p.2 v w → p.2 v w'
  | q :: r, h, p, hp => by
    rcases List.mem_cons.1 hp with e | hp
    · subst e; exact h.1
    · exact Stays.all h.2 p hp
theorem Ex.stays {St : World → World → Prop} (c : Value) : ∀ v w w', St w w' → Ex c v w → Ex c v w' := fun _ _ _ _ h => h
theorem Then.nil {K : Act → World → Prop} {a : Act} {w : World} (h : K a w) : Then K [] a w := h
end
end Go.Proofs.Ytddcfnjmppijjaa.Rg
