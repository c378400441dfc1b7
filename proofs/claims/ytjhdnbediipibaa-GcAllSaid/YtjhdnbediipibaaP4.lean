import Derived.Test.YtjhdnbediipibaaC2
/-! Plain: the row of selectors (GcSelectors); what is told of one root. -/
namespace Go.Proofs.Ytjhdnbediipibaa

theorem find_mono {A : AH} {t : Int} {p n : List Int} {k : Int} {o : HObj} (h : A.find k = some o) : (A.add t p n).find k = some o := by
  rw [add_find, h]; rfl
theorem find_new {A : AH} (h : A.WF) (t : Int) (p n : List Int) : (A.add t p n).find A.used = some ⟨t, p, n⟩ := by
  rw [add_find, h.fine.free]; simp

/-! the new heap, seen by the old addresses -/
theorem gcd_find {A : AH} (_h : A.WF) {d : Nat} {s : CS} (hi : CS.Inv A s) (ha : CS.Addr A s) {p : Int × Int} (hp : p ∈ s.ord) : (A.gcd d s).find p.2 = some ⟨A.tag p.1, s.row A d p, A.nums p.1⟩ := by
  obtain ⟨o1, o2, he⟩ := List.append_of_mem hp
  have hf1 : Fits A o1 (o1.map (s.row A d)) := Fits.map _ (row_len A d s) o1
  show lookO p.2 (List.zipWith (layRow A) s.ord (s.ord.map (s.row A d))) = _
  rw [he, List.map_append, List.map_cons, List.zipWith_append hf1.len]
  simp only [List.zipWith_cons_cons]
  have hnot : p.2 ∉ (List.zipWith (layRow A) o1 (o1.map (s.row A d))).map (·.1) := by
    rw [zip_keys hf1]
    have hn := addr_nodup hi ha
    rw [he, List.map_append, List.map_cons] at hn
    intro hm
    have := (List.pairwise_append.1 hn).2.2 p.2 hm p.2 (by simp)
    omega
  exact lookO_split p.2 _ _ _ hnot

theorem gcd_used {A : AH} {d : Nat} {s : CS} (hi : CS.Inv A s) : (A.gcd d s).used = s.used := hi.used.symm
theorem gcd_words {A : AH} {d : Nat} {s : CS} : (A.gcd d s).words = A.words := rfl

/-- the last state of the rounds -/
theorem final_inv {A : AH} (h : A.WF) (d : Nat) {roots : List Int} (hr : ∀ k ∈ roots, A.has k) : CS.Inv A (A.final d roots) ∧ CS.Addr A (A.final d roots) ∧ CS.Closed A d (A.final d roots) ∧
    ∃ m, (A.final d roots).ord = (CS.all A d ⟨[], 0⟩ roots).2.ord ++ m := by
  have gen : ∀ (f i : Nat) (s : CS), A.objs.length + 1 - i = f → RunInv A d roots i s → (∃ m, s.ord = (CS.all A d ⟨[], 0⟩ roots).2.ord ++ m) →
      CS.Inv A (A.final d roots) ∧ CS.Addr A (A.final d roots) ∧ CS.Closed A d (A.final d roots) ∧ ∃ m, (A.final d roots).ord = (CS.all A d ⟨[], 0⟩ roots).2.ord ++ m := by
    intro f
    induction f with
    | zero =>
      intro i s hf r hm
      have := r.lenle h
      have := r.le
      omega
    | succ f ih =>
      intro i s hf r ⟨m, hm⟩
      by_cases hi : i < s.ord.length
      · obtain ⟨⟨m2, hm2⟩, _⟩ := all_grows A d s (A.ptrs s.ord[i].1)
        exact ih (i + 1) _ (by omega) (r.step h hi) ⟨m ++ m2, by rw [hm2, hm]; simp⟩
      · obtain ⟨e, hc⟩ := r.finish h hi
        rw [← e]
        exact ⟨r.inv, r.addr, hc, m, hm⟩
  exact gen _ 0 _ rfl (RunInv.start h d hr) ⟨[], by simp⟩

/-- one root: it stands first -/
theorem told_one {A : AH} (h : A.WF) (d : Nat) {r : Int} (hr : A.has r) : A.told d [r] = [0] ∧ (A.gcd d (A.final d [r])).tag 0 = A.tag (A.short d r) ∧ (A.short d r, 0) ∈ (A.final d [r]).ord := by
  have e : CS.all A d ⟨[], 0⟩ [r] = ([0], ⟨[(A.short d r, 0)], 0 + osz (A.ptrs (A.short d r)) (A.nums (A.short d r))⟩) := by
    simp [CS.all, CS.stepAll, CS.copied, CS.put, lookI]
  obtain ⟨hi, ha, _, m, hm⟩ := final_inv h d (roots := [r]) (by simpa using hr)
  rw [e] at hm
  have hp : (A.short d r, 0) ∈ (A.final d [r]).ord := by rw [hm]; simp
  refine ⟨by unfold AH.told; rw [e], ?_, hp⟩
  have := gcd_find (d := d) h hi ha hp
  simp only at this
  simp only [AH.tag, this, Option.map_some, Option.getD_some]

/-! the row of selectors -/
def chTag (pair : Bool) : Int := if pair then 2 else 4
def chPtrs (pair : Bool) (a : Int) : List Int := if pair then [a, a] else [a]
def chNums (pair : Bool) : List Int := if pair then [] else [3]
def chAt : Nat → Int
  | 0 => 0
  | i + 1 => 6 * i + 5
def chain (pair : Bool) (ws : Nat → Int) : Nat → AH
  | 0 => (⟨[], 0, 200⟩ : AH).add 1 [] [77]
  | i + 1 => ((chain pair ws i).add (chTag pair) (chPtrs pair (chAt i)) (chNums pair)).add 6 [(chain pair ws i).used] [ws i]

structure ChInv (pair : Bool) (ws : Nat → Int) (i : Nat) (A : AH) : Prop where
  wf : A.WF
  used : A.used = 2 + 6 * i
  words : A.words = 200
  zero : A.find 0 = some ⟨1, [], [77]⟩
  sel : ∀ j, j < i → A.find (6 * j + 5) = some ⟨6, [6 * j + 2], [ws j]⟩
  pr : ∀ j, j < i → A.find (6 * j + 2) = some ⟨chTag pair, chPtrs pair (chAt j), chNums pair⟩

theorem ch_zero (pair : Bool) (ws : Nat → Int) : ChInv pair ws 0 (chain pair ws 0) :=
  ⟨WF_add (WF_new 200 (by omega) (by omega)) (by decide), (by decide : ((⟨[], 0, 200⟩ : AH).add 1 [] [77]).used = 2), rfl, (by decide : ((⟨[], 0, 200⟩ : AH).add 1 [] [77]).find 0 = some ⟨1, [], [77]⟩), fun j h => by omega, fun j h => by omega⟩

theorem ch_ok1 {pair : Bool} {ws : Nat → Int} {i : Nat} (hi : i < 20) {A : AH} (h : ChInv pair ws i A) : A.AllocOk (chTag pair) (chPtrs pair (chAt i)) (chNums pair) := by
  have hat : A.has (chAt i) := by
    unfold AH.has
    cases i with
    | zero => rw [show chAt 0 = 0 from rfl, h.zero]; simp
    | succ i => rw [show chAt (i + 1) = 6 * i + 5 from rfl, h.sel i (by omega)]; simp
  cases pair
  · exact ⟨⟨by decide, by decide, by simp [chPtrs], by simp [chNums], fun e => by simp [chTag] at e, fun e => by simp [chTag] at e, fun e => by simp [chTag] at e⟩, fun x hx => .inl (by simp [chPtrs] at hx; subst hx; exact hat), by rw [h.used, h.words]; simp [chPtrs, chNums, osz]; omega⟩
  · exact ⟨⟨by decide, by decide, by simp [chPtrs], by simp [chNums], fun _ => ⟨by simp [chPtrs], by simp [chNums]⟩, fun e => by simp [chTag] at e, fun e => by simp [chTag] at e⟩, fun x hx => .inl (by simp [chPtrs] at hx; subst hx; exact hat), by rw [h.used, h.words]; simp [chPtrs, chNums, osz]; omega⟩
theorem ch_osz (pair : Bool) (a : Int) : osz (chPtrs pair a) (chNums pair) = 3 := by cases pair <;> simp [chPtrs, chNums, osz] <;> omega
theorem ch_ok2 {pair : Bool} {ws : Nat → Int} {i : Nat} (hi : i < 20) (hw : ws i = 0 ∨ ws i = 1) {A : AH} (h : ChInv pair ws i A) : (A.add (chTag pair) (chPtrs pair (chAt i)) (chNums pair)).AllocOk 6 [A.used] [ws i] := by
  refine ⟨⟨by decide, by decide, by simp, by simp, fun e => by simp at e, fun e => by simp at e, fun _ => ⟨rfl, rfl, by simpa using hw⟩⟩, fun x hx => .inl ?_, ?_⟩
  · rw [List.mem_singleton] at hx; subst hx
    rw [add_has]; exact .inr rfl
  · show A.used + osz (chPtrs pair (chAt i)) (chNums pair) + _ ≤ A.words
    rw [ch_osz, h.used, h.words]
    simp [osz]; omega
theorem ch_step {pair : Bool} {ws : Nat → Int} {i : Nat} (hi : i < 20) (hw : ws i = 0 ∨ ws i = 1) {A : AH} (h : ChInv pair ws i A) :
    ChInv pair ws (i + 1) ((A.add (chTag pair) (chPtrs pair (chAt i)) (chNums pair)).add 6 [A.used] [ws i]) := by
  have w1 := WF_add h.wf (ch_ok1 hi h)
  have w2 := WF_add w1 (ch_ok2 hi hw h)
  have u1 : (A.add (chTag pair) (chPtrs pair (chAt i)) (chNums pair)).used = 6 * i + 5 := by
    show A.used + osz _ _ = _
    rw [ch_osz, h.used]; omega
  refine ⟨w2, ?_, h.words, find_mono (find_mono h.zero), fun j hj => ?_, fun j hj => ?_⟩
  · show (A.add (chTag pair) (chPtrs pair (chAt i)) (chNums pair)).used + osz _ _ = _
    rw [u1]; simp [osz]; omega
  · by_cases e : j = i
    · subst e
      have := find_new w1 6 [A.used] [ws j]
      rw [u1] at this
      rw [this, h.used]
      congr 2
      simp; omega
    · exact find_mono (find_mono (h.sel j (by omega)))
  · by_cases e : j = i
    · subst e
      have := find_new h.wf (chTag pair) (chPtrs pair (chAt j)) (chNums pair)
      rw [h.used, show (2 : Int) + 6 * j = 6 * j + 2 by omega] at this
      exact find_mono this
    · exact find_mono (find_mono (h.pr j (by omega)))

theorem base_of {A : AH} {k : Int} {o : HObj} (hf : A.find k = some o) (h5 : o.tag ≠ 5) (h0 : 0 ≤ k) : A.base k = k := by
  have : A.follow k = k := by
    unfold AH.follow AH.followN
    simp [hf, h5]
  unfold AH.base
  rw [this, if_pos h0]

theorem ch_short {pair : Bool} {ws : Nat → Int} {K : Nat} {A : AH} (h : ChInv pair ws K A) (hw : ∀ j, j < K → ws j = 0 ∨ ws j = 1) : ∀ (d i : Nat), i ≤ K →
    (pair = true → A.short d (chAt i) = chAt (i - d)) ∧ (pair = false → A.short d (chAt i) = chAt i) := by
  intro d
  induction d with
  | zero =>
    intro i hi
    have : A.base (chAt i) = chAt i := by
      cases i with
      | zero => exact base_of h.zero (by decide) (by decide)
      | succ i => exact base_of (h.sel i (by omega)) (by simp) (show (0 : Int) ≤ 6 * i + 5 by omega)
    exact ⟨fun _ => this, fun _ => this⟩
  | succ d ih =>
    intro i hi
    cases i with
    | zero =>
      have hb : A.base 0 = 0 := base_of h.zero (by decide) (by decide)
      have ht : A.tag 0 ≠ 6 := by simp [AH.tag, h.zero]
      have : A.short (d + 1) 0 = 0 := by simp only [AH.short, hb, ht, if_false]
      exact ⟨fun _ => by rw [Nat.zero_sub]; exact this, fun _ => this⟩
    | succ i =>
      have hs := h.sel i (by omega)
      have hp := h.pr i (by omega)
      have hb : A.base (6 * i + 5) = 6 * i + 5 := base_of hs (by simp) (by omega)
      have ht : A.tag (6 * i + 5) = 6 := by simp [AH.tag, hs]
      have hptr : A.ptrs (6 * (i : Int) + 5) = [6 * (i : Int) + 2] := by simp [AH.ptrs, hs]
      have hnum : A.nums (6 * i + 5) = [ws i] := by simp [AH.nums, hs]
      have hbc : A.base (6 * i + 2) = 6 * i + 2 := base_of hp (by cases pair <;> simp [chTag]) (by omega)
      have htc : A.tag (6 * i + 2) = chTag pair := by simp [AH.tag, hp]
      have hsc : A.short d (6 * i + 2) = 6 * i + 2 := by
        cases d with
        | zero => exact hbc
        | succ d =>
          have : A.tag (6 * i + 2) ≠ 6 := by rw [htc]; cases pair <;> decide
          simp only [AH.short, hbc, this, if_false]
      have hpc : A.ptrs (6 * i + 2) = chPtrs pair (chAt i) := by simp [AH.ptrs, hp]
      constructor
      · intro hpair
        subst hpair
        have : A.short (d + 1) (6 * i + 5) = A.short d (chAt i) := by
          simp only [AH.short, hb, ht, if_true, hptr, List.getD_cons_zero, hsc, htc, chTag, hpc, hnum, chPtrs]
          rcases hw i (by omega) with e | e <;> rw [e] <;> rfl
        show A.short (d + 1) (6 * i + 5) = _
        rw [this, (ih i (by omega)).1 rfl, Nat.succ_sub_succ]
      · intro hpair
        subst hpair
        show A.short (d + 1) (6 * i + 5) = 6 * i + 5
        simp only [AH.short, hb, ht, if_true, hptr, List.getD_cons_zero, hsc, htc, chTag]
        simp

/-- what GcSelectors asks -/
theorem selectors_law {pair : Bool} {ws : Nat → Int} {K : Nat} {A : AH} (h : ChInv pair ws K A) (hw : ∀ j, j < K → ws j = 0 ∨ ws j = 1) (hK : 0 < K) (d : Nat) :
    A.has (chAt K) ∧ A.told d [chAt K] = [0] ∧ ((pair = false ∨ d = 0) → (A.gcd d (A.final d [chAt K])).tag 0 = 6) ∧
    (pair = true → K ≤ d → (A.gcd d (A.final d [chAt K])).tag 0 = 1 ∧ (A.gcd d (A.final d [chAt K])).used = 2) ∧
    (pair = true → d < K → (A.gcd d (A.final d [chAt K])).tag 0 = 6 ∧ (A.gcd d (A.final d [chAt K])).used ≤ A.used) := by
  obtain ⟨k, rfl⟩ : ∃ k, K = k + 1 := ⟨K - 1, by omega⟩
  have hsk := h.sel k (by omega)
  have hh : A.has (chAt (k + 1)) := by unfold AH.has; rw [show chAt (k + 1) = 6 * k + 5 from rfl, hsk]; simp
  obtain ⟨h1, h2, h3⟩ := told_one h.wf d hh
  obtain ⟨s1, s2⟩ := ch_short h hw d (k + 1) (Nat.le_refl _)
  have htat : ∀ j, j < k + 1 → A.tag (chAt (j + 1)) = 6 := fun j hj => by
    rw [show chAt (j + 1) = 6 * j + 5 from rfl]; simp [AH.tag, h.sel j hj]
  have hinv := final_inv h.wf d (roots := [chAt (k + 1)]) (by simpa using hh)
  have hle := hinv.1.le h.wf
  refine ⟨hh, h1, fun hc => ?_, fun hp hd => ?_, fun hp hd => ?_⟩
  · rw [h2]
    rcases hc with hc | hc
    · rw [s2 hc]; exact htat k (by omega)
    · subst hc
      cases pair
      · rw [s2 rfl]; exact htat k (by omega)
      · rw [s1 rfl]; exact htat k (by omega)
  · have e : chAt (k + 1 - d) = 0 := by rw [show k + 1 - d = 0 by omega]; rfl
    rw [h2, s1 hp, e]
    refine ⟨by simp [AH.tag, h.zero], ?_⟩
    rw [gcd_used hinv.1]
    -- the rounds end at once
    have ea : CS.all A d ⟨[], 0⟩ [chAt (k + 1)] = ([0], ⟨[(0, 0)], 2⟩) := by
      have hp0 : A.ptrs 0 = [] := by simp [AH.ptrs, h.zero]
      have hn0 : A.nums 0 = [77] := by simp [AH.nums, h.zero]
      simp [CS.all, CS.stepAll, CS.copied, CS.put, lookI, s1 hp, e, hp0, hn0, osz]
    unfold AH.final
    rw [ea]
    have hp0 : A.ptrs 0 = [] := by simp [AH.ptrs, h.zero]
    have hl : 1 ≤ A.objs.length := by
      cases ho : A.objs with
      | nil => have := h.zero; simp [AH.find, ho, lookO] at this
      | cons a r => simp
    obtain ⟨n, hn⟩ : ∃ n, A.objs.length = n + 1 := ⟨A.objs.length - 1, by omega⟩
    rw [hn]
    simp [CS.run, CS.all, hp0]
  · rw [h2, s1 hp, gcd_used hinv.1]
    obtain ⟨j, hj⟩ : ∃ j, k + 1 - d = j + 1 := ⟨k - d, by omega⟩
    rw [hj]
    exact ⟨htat j (by omega), by omega⟩
end Go.Proofs.Ytjhdnbediipibaa
