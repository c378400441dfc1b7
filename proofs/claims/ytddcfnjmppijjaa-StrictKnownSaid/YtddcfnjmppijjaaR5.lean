import Derived.Test.YtddcfnjmppijjaaR3
/-! The rule of R, with something more that each operation keeps: of the slots and the world together. -/
namespace Go.Proofs.Ytddcfnjmppijjaa.Rg
open Go.RowKit

section
variable {P : Program}

/-- the operation i may come up: what it waits for is listed, it is not; what is listed has what it waits for listed -/
structure MayCome (l : List Oper) (i : Nat) (o : Oper) (listed : Array Bool) : Prop where
  size : listed.size = l.length
  not : listed.getD i false = false
  own : ∀ e ∈ o.after, Region.binds .any e = true → listed.getD e.on false = true
  closed : ∀ j oj, l[j]? = some oj → listed.getD j false = true → ∀ e ∈ oj.after, Region.binds .any e = true → listed.getD e.on false = true

def OpGoalJ (P : Program) (I : Array Bool → Act → World → Prop) (l : List Oper) (St : World → World → Prop) (w0 : World) (F : Tmp → Value → World → Prop) (i : Nat) (o : Oper) : Prop :=
  o.guard = none ∧ ∀ (listed : Array Bool) (a : Act) (w : World), MayCome l i o listed → St w0 w → I listed a w → Rd F a w o.op.operands.toList →
    Yields P o a w fun v w' => (∀ d, o.dst = some d → F d v w') ∧ St w w' ∧ I (listed.setIfInBounds i true) (a.put o.dst v) w'

def OpGoalsJ (P : Program) (I : Array Bool → Act → World → Prop) (l : List Oper) (St : World → World → Prop) (w0 : World) (F : Tmp → Value → World → Prop) : Nat → List Oper → Prop
  | _, [] => True
  | i, o :: r => OpGoalJ P I l St w0 F i o ∧ OpGoalsJ P I l St w0 F (i + 1) r
theorem OpGoalsJ.get {I : Array Bool → Act → World → Prop} {l : List Oper} {St : World → World → Prop} {w0 : World} {F : Tmp → Value → World → Prop} : ∀ (r : List Oper) (k : Nat) (_ : OpGoalsJ P I l St w0 F k r) (i : Nat) (o : Oper) (_ : r[i]? = some o), OpGoalJ P I l St w0 F (k + i) o
  | [], _, _, i, o, ho => by simp at ho
  | x :: r, k, h, 0, o, ho => by simp at ho; subst ho; exact h.1
  | x :: r, k, h, i + 1, o, ho => by
    have := OpGoalsJ.get r (k + 1) h.2 i o (by simpa using ho)
    rw [show k + (i + 1) = k + 1 + i by omega]; exact this

structure FInvJ (I : Array Bool → Act → World → Prop) (l : List Oper) (n : Nat) (St : World → World → Prop) (w0 : World) (F : Tmp → Value → World → Prop) (a0 : Act) (listed : Array Bool) (a : Act) (w : World) : Prop where
  st : St w0 w
  defers : a.defers = a0.defers
  size : a.tmps.size = a0.tmps.size
  old : ∀ t, t ∉ (l.take n).filterMap (·.dst) → a.tmps[t]? = a0.tmps[t]?
  fact : ∀ i o d, i < n → l[i]? = some o → listed.getD i false = true → o.dst = some d → F d (a.tmps.getD d undef) w
  more : I listed a w


theorem facts_stepJ {I : Array Bool → Act → World → Prop} {l : List Oper} {n i : Nat} {St : World → World → Prop} {w0 : World} {F : Tmp → Value → World → Prop} {a0 a : Act} {w : World} {listed : Array Bool} {o : Oper}
    (htr : ∀ a b c, St a b → St b c → St a c) (hmono : ∀ t v w w', St w w' → F t v w → F t v w') (hnd : ((l.take n).filterMap (·.dst)).Nodup)
    (hold : ∀ t, t ∉ (l.take n).filterMap (·.dst) → F t (a0.tmps.getD t undef) w0) (_hrefl : ∀ a, St a a) (hsz : ∀ d ∈ (l.take n).filterMap (·.dst), d < a0.tmps.size)
    (inv : FInvJ I l n St w0 F a0 listed a w) (hi : i < n) (ho : l[i]? = some o) (_hlen : listed.size = l.length)
    (hrd : ∀ t, .tmp t ∈ o.op.operands.toList → t ∈ (l.take n).filterMap (·.dst) → ∃ j oj, j < n ∧ l[j]? = some oj ∧ oj.dst = some t ∧ listed.getD j false = true)
    (hmc : MayCome l i o listed)
    (hg : OpGoalJ P I l St w0 F i o) {K : Act → World → Prop} {Q : Exit → Act → World → Prop} (hK : ∀ a' w', FInvJ I l n St w0 F a0 (listed.setIfInBounds i true) a' w' → K a' w') :
    wpOp P l.toArray Q i K a w := by
  have hin : i < l.length := (List.getElem?_eq_some_iff.1 ho).1
  have hdin : ∀ d, o.dst = some d → d ∈ (l.take n).filterMap (·.dst) := fun d hd => List.mem_filterMap.2 ⟨o, List.mem_of_getElem? (show (l.take n)[i]? = some o by simp [hi, ho]), hd⟩
  -- the invariant behind the operation
  have hnext : ∀ v w', (∀ d, o.dst = some d → F d v w') → St w w' → I (listed.setIfInBounds i true) (a.put o.dst v) w' → FInvJ I l n St w0 F a0 (listed.setIfInBounds i true) (a.put o.dst v) w' := by
    intro v w' hv hst hI
    refine ⟨htr _ _ _ inv.st hst, ?_, ?_, ?_, ?_, hI⟩
    · cases hd : o.dst <;> simp [Act.put, inv.defers]
    · cases hd : o.dst <;> simp [Act.put, inv.size]
    · intro t ht
      cases hd : o.dst with
      | none => exact inv.old t ht
      | some d =>
        have hne : d ≠ t := fun e => ht (e ▸ hdin d hd)
        rw [put_get_ne v hne]; exact inv.old t ht
    · intro j oj d hj hoj hl hdj
      by_cases hij : i = j
      · subst hij
        have : oj = o := Option.some.inj (hoj.symm.trans ho)
        subst this
        rw [hdj]
        rw [put_getD_eq v (by rw [inv.size]; exact hsz d (hdin d hdj))]; exact hv d hdj
      · have hl' : listed.getD j false = true := by rw [getD_set_ne false hij] at hl; exact hl
        have hf := hmono _ _ _ _ hst (inv.fact j oj d hj hoj hl' hdj)
        cases hd : o.dst with
        | none => exact hf
        | some d' =>
          have hne : d' ≠ d := fun e => hij (nodup_dst hnd hi hj ho hoj hd (e ▸ hdj))
          rw [put_getD_ne v hne]; exact hf
  have hR : Rd F a w o.op.operands.toList := Rd.of (fun t ht => by
    by_cases hm : t ∈ (l.take n).filterMap (·.dst)
    · obtain ⟨j, oj, hj, hoj, hdj, hl⟩ := hrd t ht hm
      exact inv.fact j oj t hj hoj hl hdj
    · have e : a.tmps.getD t undef = a0.tmps.getD t undef := by
        have h := inv.old t hm
        rw [Array.getD_eq_getD_getElem?, Array.getD_eq_getD_getElem?, h]
      rw [e]
      exact hmono _ _ _ _ inv.st (hold t hm))
  have hgoal := hg.2 listed a w hmc inv.st inv.more hR
  unfold wpOp
  rw [show l.toArray[i]? = some o by simpa using ho]
  simp only []
  simp only [Region.wanted, hg.1, if_true]
  exact .inl (Yields.wp hgoal (fun v w' h => hK _ _ (hnext v w' h.1 h.2.1 h.2.2)))

/-- the unlisted of the head -/
theorem facts_anyJ {I : Array Bool → Act → World → Prop} {l : List Oper} {n : Nat} {St : World → World → Prop} {w0 : World} {F : Tmp → Value → World → Prop} {a0 : Act} {Q : Exit → Act → World → Prop}
    (htr : ∀ a b c, St a b → St b c → St a c) (hmono : ∀ t v w w', St w w' → F t v w → F t v w') (hrefl : ∀ a, St a a)
    (hold : ∀ t, t ∉ (l.take n).filterMap (·.dst) → F t (a0.tmps.getD t undef) w0) (hsz : ∀ d ∈ (l.take n).filterMap (·.dst), d < a0.tmps.size)
    (hB : factsB l n = true) (hgs : OpGoalsJ P I l St w0 F 0 (l.take n)) (hend : ∀ a w, FInvJ I l n St w0 F a0 ((List.range l.length).map fun i => decide (i < n)).toArray a w → wpList P l.toArray Q (l.drop n) a w) :
    ∀ (todo : List Nat) (listed : Array Bool) (a : Act) (w : World), todo.Nodup → (∀ i, i ∈ todo ↔ i < n ∧ listed.getD i true = false) → HeadInv .any l.toArray n listed →
      FInvJ I l n St w0 F a0 listed a w → wpAny P .any l.toArray Q (todo.length + (l.length - n)) listed a w := by
  have hB0 := hB
  simp only [factsB, Bool.and_eq_true, decide_eq_true_eq] at hB
  obtain ⟨⟨⟨⟨⟨hsel, hn⟩, hnd⟩, hops⟩, htail⟩, hseq⟩ := hB
  have hop : ∀ i, i < n → ∃ o, l[i]? = some o ∧ (∀ e ∈ o.after, Region.binds .any e = true → e.on < i) ∧
      (∀ t, .tmp t ∈ o.op.operands.toList → t ∈ (l.take n).filterMap (·.dst) → ∃ e ∈ o.after, Region.binds .any e = true ∧ e.on < n ∧ ((l[e.on]?).bind (·.dst)) = some t) ∧
      (∀ g want, o.guard = some (g, want) → (∃ e ∈ o.after, Region.binds .any e = true ∧ e.on = g) ∧ g < n ∧ ((l[g]?).bind (·.dst)).isSome) := by
    intro i hi
    have h := List.all_eq_true.1 hops i (List.mem_range.2 hi)
    cases ho : l[i]? with
    | none => rw [ho] at h; cases h
    | some o =>
      rw [ho] at h
      simp only [Bool.and_eq_true] at h
      obtain ⟨⟨h1, h2⟩, h3⟩ := h
      refine ⟨o, rfl, fun e he hb => ?_, fun t ht hm => ?_, fun g want hg => ?_⟩
      · have := Array.all_eq_true'.1 h1 e he
        simpa [hb] using this
      · have := Array.all_eq_true'.1 h2 (.tmp t) (Array.mem_toList_iff.1 ht)
        simp only [Bool.or_eq_true, Bool.not_eq_true'] at this
        rcases this with h | h
        · rw [List.contains_eq_mem] at h; simp only [decide_eq_false_iff_not] at h; exact absurd hm h
        · obtain ⟨e, he, hb⟩ := Array.any_eq_true'.1 h
          simp only [Bool.and_eq_true, decide_eq_true_eq, beq_iff_eq] at hb
          exact ⟨e, he, hb.1.1, hb.1.2, hb.2⟩
      · rw [hg] at h3
        simp only [Bool.and_eq_true, decide_eq_true_eq] at h3
        obtain ⟨e, he, hb⟩ := Array.any_eq_true'.1 h3.1.1
        simp only [Bool.and_eq_true, beq_iff_eq] at hb
        exact ⟨⟨e, he, hb.1, hb.2⟩, h3.1.2, h3.2⟩
  intro todo
  generalize hf : todo.length = f
  induction f generalizing todo with
  | zero =>
    intro listed a w _ hiff hinv inv
    have htodo : todo = [] := List.eq_nil_of_length_eq_zero hf
    subst htodo
    have hall : ∀ i, i < n → listed.getD i true = true := fun i hi => by
      cases h : listed.getD i true with
      | true => rfl
      | false => exact absurd ((hiff i).2 ⟨hi, h⟩) (by simp)
    have hL : listed = ((List.range l.length).map fun i => decide (i < n)).toArray := by
      apply Array.ext
      · simp [hinv.size]
      · intro i h1 h2
        have hil : i < l.length := by simpa using h2
        by_cases hi : i < n
        · have := hall i hi
          simp [h1] at this
          simp [this, hi]
        · have := hinv.tail i (by omega) (by simpa using hil)
          simp [h1] at this
          simp [this, hi]
    rw [Nat.zero_add]
    subst hL
    have hdl : (l.drop n).length = l.length - n := by simp
    rw [← hdl]
    exact wpAny_of_seq (md := .any) (Q' := Q) (l.drop n) n _ a w (fun j => by simp [List.getElem?_drop]) (by rw [hdl]; exact hseq) (hend a w inv)
  | succ f ih =>
    intro listed a w hnod hiff hinv inv
    rw [show f + 1 + (l.length - n) = (f + (l.length - n)) + 1 by omega]
    -- something is ready: the least that is not listed
    have hex : ∃ i, i ∈ todo := by
      cases todo with
      | nil => simp at hf
      | cons x r => exact ⟨x, by simp⟩
    have hready : Region.ready .any l.toArray listed ≠ [] := by
      obtain ⟨i0, hi0⟩ := hex
      have : ∀ k, ∀ i, i ≤ k → i ∈ todo → ∃ j, j ∈ Region.ready .any l.toArray listed := by
        intro k
        induction k with
        | zero =>
          intro i hik hi
          have hi' : i = 0 := by omega
          subst hi'
          obtain ⟨hin, hun⟩ := (hiff 0).1 hi
          obtain ⟨o, ho, he, _⟩ := hop 0 hin
          exact ⟨0, mem_ready.2 ⟨hun, o, by simpa using ho, fun e hem hb => absurd (he e hem hb) (by omega)⟩⟩
        | succ k ihk =>
          intro i hik hi
          obtain ⟨hin, hun⟩ := (hiff i).1 hi
          obtain ⟨o, ho, he, _⟩ := hop i hin
          by_cases hall : ∀ e ∈ o.after, Region.binds .any e = true → listed.getD e.on false = true
          · exact ⟨i, mem_ready.2 ⟨hun, o, by simpa using ho, hall⟩⟩
          · obtain ⟨e, hem, hb, hl⟩ : ∃ e ∈ o.after, Region.binds .any e = true ∧ listed.getD e.on false ≠ true := by
              apply Classical.byContradiction
              intro hno
              exact hall (fun e hem hb => Classical.byContradiction fun hl => hno ⟨e, hem, hb, hl⟩)
            have hlt := he e hem hb
            have hl' : listed.getD e.on false = false := by simpa using hl
            have hen : e.on < n := by omega
            exact ihk e.on (by omega) ((hiff e.on).2 ⟨hen, getD_in (by rw [hinv.size]; simp; omega) hl'⟩)
      obtain ⟨j, hj⟩ := this i0 i0 (Nat.le_refl _) hi0
      intro e
      rw [e] at hj
      cases hj
    refine ⟨fun h => absurd h hready, fun i hi => ?_⟩
    obtain ⟨i0, hi0⟩ := hex
    have hin : i < n := by
      by_cases hc : i < n
      · exact hc
      · exfalso
        obtain ⟨hi0n, hi0u⟩ := (hiff i0).1 hi0
        simp only [Bool.or_eq_true, decide_eq_true_eq, Bool.and_eq_true] at htail
        obtain ⟨_, o, ho, _⟩ := mem_ready.1 hi
        have hil : i < l.length := by
          have := (Array.getElem?_eq_some_iff.1 ho).1
          simpa using this
        rcases htail with h | ⟨h1, h2⟩
        · omega
        · exact tail_waits h1 h2 (by simp; omega) hinv (n - i0) i0 rfl hi0n hi0u i (by omega) hi
    obtain ⟨hun, o', ho', hall⟩ := mem_ready.1 hi
    obtain ⟨o, ho, he, hr, hg⟩ := hop i hin
    have hoo : o' = o := by
      have : l[i]? = some o' := by simpa using ho'
      exact Option.some.inj (this.symm.trans ho)
    subst hoo
    refine facts_stepJ (n := n) htr hmono hnd hold hrefl hsz inv hin ho (by simpa using hinv.size) (fun t ht hm => ?_) ⟨by simpa using hinv.size, getD_both hun, hall, fun j oj hj hl => hinv.closed j oj (by simpa using hj) hl⟩
      (by have := OpGoalsJ.get _ 0 hgs i o' (show (l.take n)[i]? = some o' by simp [hin, ho]); rwa [Nat.zero_add] at this) (fun a' w' inv' => ?_)
    · obtain ⟨e, hem, hb, hen, hd⟩ := hr t ht hm
      cases hoj : l[e.on]? with
      | none => simp [hoj] at hd
      | some oj => exact ⟨e.on, oj, hen, hoj, by simpa [hoj] using hd, hall e hem hb⟩
    · have hmem : i ∈ todo := (hiff i).2 ⟨hin, hun⟩
      refine ih (todo.erase i) (by rw [List.length_erase_of_mem hmem, hf]; omega) _ a' w' (hnod.erase i) (fun j => ?_) (hinv.set hi hin) inv'
      rw [hnod.mem_erase_iff, hiff j]
      by_cases hij : i = j
      · subst hij
        have hlt : i < listed.size := by rw [hinv.size]; simp; exact (List.getElem?_eq_some_iff.1 ho).1
        simp [hlt]
      · rw [getD_set_ne true hij]
        constructor
        · rintro ⟨_, h⟩; exact h
        · intro h; exact ⟨Ne.symm hij, h⟩


/-- THE RULE. n: how many operations the head has; Φ: what each slot that it writes holds, in the text's order -/
theorem wp_region_factsJ {id : Nat} {l : List Oper} {Q : Exit → Act → World → Prop} {a0 : Act} {w0 : World} (n : Nat) (I : Array Bool → Act → World → Prop) (St : World → World → Prop) (Φ : List (Tmp × (Value → World → Prop)))
    (hm : P.follows .mixedOrders = true) (hB : factsB l n = true) (hsz : (Φ.map (·.1)).all (fun d => decide (d < a0.tmps.size)) = true)
    (hdom : (l.take n).filterMap (·.dst) = Φ.map (·.1))
    (hrefl : ∀ a, St a a) (htr : ∀ a b c, St a b → St b c → St a c) (hdrew : St w0 w0.drew)
    (hmono : ∀ p ∈ Φ, ∀ v w w', St w w' → p.2 v w → p.2 v w')
    (hgs : OpGoalsJ P I l St w0 (Fk a0 Φ) 0 (l.take n))
    (hI0 : I (Array.replicate l.length false) a0 w0.drew)
    (hend : ∀ w, St w0 w → Then (fun a w => I ((List.range l.length).map fun i => decide (i < n)).toArray a w → wpList P l.toArray Q (l.drop n) a w) Φ a0 w) :
    (Code.region id l.toArray true).wp P Q a0 w0 := by
  refine wp_region_any hm ?_
  have hB' := hB
  simp only [factsB, Bool.and_eq_true, decide_eq_true_eq] at hB'
  have hn : n ≤ l.length := hB'.1.1.1.1.2
  have hnd : (Φ.map (·.1)).Nodup := by rw [← hdom]; exact hB'.1.1.1.2
  have := facts_anyJ (I := I) (P := P) (l := l) (n := n) (St := St) (w0 := w0) (F := Fk a0 Φ) (a0 := a0) (Q := Q)
    htr (fun t v w w' hs h => Fk.mono hs hmono h) hrefl (fun t ht => (Fk.other (by rw [← hdom]; exact ht)).2 rfl) (fun d hd => by rw [hdom] at hd; have := List.all_eq_true.1 hsz d hd; simpa using this) hB hgs
    (fun a w inv => then_of (K := fun a w => I ((List.range l.length).map fun i => decide (i < n)).toArray a w → wpList P l.toArray Q (l.drop n) a w) (a0 := a0) Φ a0 a w hnd (hend w inv.st) inv.defers inv.size (fun t ht => inv.old t (by rw [hdom]; exact ht)) (fun p hp => by
      have hpd : p.1 ∈ (l.take n).filterMap (·.dst) := by rw [hdom]; exact List.mem_map.2 ⟨p, hp, rfl⟩
      obtain ⟨o, ho, hd⟩ := List.mem_filterMap.1 hpd
      obtain ⟨i, hi⟩ := List.mem_iff_getElem?.1 ho
      have hin : i < n := by
        have := (List.getElem?_eq_some_iff.1 hi).1
        simp at this; omega
      have hi' : l[i]? = some o := by simpa [hin] using hi
      have hil : i < l.length := (List.getElem?_eq_some_iff.1 hi').1
      exact inv.fact i o p.1 hin hi' (by simp [hil, hin]) hd) inv.more)
    (List.range n) (Array.replicate l.toArray.size false) a0 w0.drew List.nodup_range (fun i => ?_) ?_ ?_
  · rw [List.length_range, show n + (l.length - n) = l.toArray.size by simp; omega] at this
    exact this
  · rw [List.mem_range]
    constructor
    · intro hi; exact ⟨hi, by simp [show i < l.length by omega]⟩
    · exact fun h => h.1
  · exact ⟨by simp, fun j oj _ hl => (by rw [getD_replicate_false] at hl; cases hl), fun t _ ht => getD_in (by simpa using ht) (getD_replicate_false _ _)⟩
  · exact ⟨hdrew, rfl, rfl, fun _ _ => rfl, fun i o d _ _ hl _ => (by rw [getD_replicate_false] at hl; cases hl), hI0⟩

theorem OpGoalsJ.none {I : Array Bool → Act → World → Prop} {l : List Oper} {St : World → World → Prop} {w0 : World} {F : Tmp → Value → World → Prop} {i : Nat} : OpGoalsJ P I l St w0 F i [] := trivial
theorem OpGoalsJ.cons {I : Array Bool → Act → World → Prop} {l : List Oper} {St : World → World → Prop} {w0 : World} {F : Tmp → Value → World → Prop} {i : Nat} {o : Oper} {r : List Oper} (h : OpGoalJ P I l St w0 F i o) (k : OpGoalsJ P I l St w0 F (i + 1) r) : OpGoalsJ P I l St w0 F i (o :: r) := ⟨h, k⟩
end
end Go.Proofs.Ytddcfnjmppijjaa.Rg
