import Derived.Test.YtjhdnbediipibaaC3
/-! Plain: pointers that are set; rings (GcRings). -/
namespace Go.Proofs.Ytjhdnbediipibaa

theorem updO_keys (k : Int) (o : HObj) : ∀ l : List (Int × HObj), (updO k o l).map (·.1) = l.map (·.1)
  | [] => rfl
  | p :: r => by
    unfold updO
    split
    · rfl
    · simp [updO_keys k o r]
theorem updO_mem {k : Int} {o : HObj} {q : Int × HObj} : ∀ {l : List (Int × HObj)}, q ∈ updO k o l → q ∈ l ∨ q = (k, o)
  | [], h => by simp [updO] at h
  | p :: r, h => by
    unfold updO at h
    split at h
    · rename_i e
      rcases List.mem_cons.1 h with rfl | h
      · exact .inr (by rw [e])
      · exact .inl (by simp [h])
    · rcases List.mem_cons.1 h with rfl | h
      · exact .inl (by simp)
      · rcases updO_mem h with h | h
        · exact .inl (by simp [h])
        · exact .inr h
theorem updO_sum {k : Int} {o o0 : HObj} (hz : o.sz = o0.sz) : ∀ {l : List (Int × HObj)}, lookO k l = some o0 → sumSz (updO k o l) = sumSz l
  | [], h => by simp [lookO] at h
  | p :: r, h => by
    unfold lookO at h
    unfold updO
    split at h
    · rename_i e
      rw [if_pos e]
      cases h
      simp only [sumSz, hz]
    · rename_i e
      rw [if_neg e]
      simp only [sumSz, updO_sum hz h]
theorem updO_look {k x : Int} {o : HObj} : ∀ {l : List (Int × HObj)}, lookO k l ≠ none → lookO x (updO k o l) = if x = k then some o else lookO x l
  | [], h => by simp [lookO] at h
  | p :: r, h => by
    unfold lookO at h
    unfold updO
    split at h
    · rename_i e
      rw [if_pos e]
      simp only [lookO, ← e]
      split <;> rfl
    · rename_i e
      rw [if_neg e]
      simp only [lookO, updO_look h]
      split
      · rename_i e2
        rw [if_neg (by omega)]
      · rfl

theorem set_find {A : AH} {k i to x : Int} (h : A.has k) : (A.set k i to).find x = if x = k then some ⟨A.tag k, (A.ptrs k).set i.toNat to, A.nums k⟩ else A.find x := by
  obtain ⟨e1, e2, e3⟩ := ptrs_obj h
  rw [e1, e2, e3]
  exact updO_look h
theorem set_has {A : AH} {k i to x : Int} : (A.set k i to).has x ↔ A.has x := by
  rw [has_iff, has_iff]
  show x ∈ (updO _ _ _).map (·.1) ↔ _
  rw [updO_keys]
theorem WF_set {A : AH} (h : A.WF) {k i to : Int} (ok : A.SetOk k i to) : (A.set k i to).WF := by
  obtain ⟨h1, h2, h3, h4⟩ := ok
  obtain ⟨e1, e2, e3⟩ := ptrs_obj h1
  obtain ⟨o, ho, hm⟩ := AH.has_find h1
  have hobj : A.obj k = o := by simp [AH.obj, ho]
  refine ⟨?_, ?_, ?_, ?_, ?_, h.uw, h.w0⟩
  · intro q hq
    rcases updO_mem hq with hq | rfl
    · exact h.shaped q hq
    · have := h.shaped _ hm
      simp only [hobj]
      exact shape_len this (by simp)
  · intro q hq x hx
    rw [set_has]
    rcases updO_mem hq with hq | rfl
    · exact h.closed q hq x hx
    · simp only [hobj] at hx
      rcases List.mem_or_eq_of_mem_set hx with hx | rfl
      · exact h.closed _ hm x hx
      · exact h2
  · show ((updO _ _ _).map (·.1)).Pairwise (· < ·)
    rw [updO_keys]; exact h.keys
  · intro q hq
    rcases updO_mem hq with hq | rfl
    · exact h.range q hq
    · show 0 ≤ k ∧ k < A.used
      exact h.range (k, o) hm
  · show sumSz (updO _ _ _) ≤ _
    rw [updO_sum (o0 := o) (by simp [HObj.sz, osz, hobj]) ho]
    exact h.sum

/-! the ring -/
/-- so many pairs, the first of them in a row, the others each at itself -/
structure RingInv (k i m : Nat) (A : AH) : Prop where
  wf : A.WF
  used : A.used = 3 * k
  words : A.words = 200
  done : ∀ j, j < i → A.find (3 * j) = some ⟨2, [3 * j, 3 * (((j + 1) % m : Nat) : Int)], []⟩
  self : ∀ j, i ≤ j → j < k → A.find (3 * j) = some ⟨2, [3 * j, 3 * j], []⟩

theorem ring_zero (m : Nat) : RingInv 0 0 m ⟨[], 0, 200⟩ := ⟨WF_new 200 (by omega) (by omega), rfl, rfl, fun j h => by omega, fun j _ h => by omega⟩
theorem ring_ok {k m : Nat} (hk : k < 20) {A : AH} (h : RingInv k 0 m A) : A.AllocOk 2 [3 * (k : Int), 3 * k] [] :=
  ⟨⟨by decide, by decide, by simp, by simp, fun _ => ⟨by simp, by simp⟩, fun e => by simp at e, fun e => by simp at e⟩, fun x hx => .inr (by simp at hx; rw [hx, h.used]), by rw [h.used, h.words]; simp [osz]; omega⟩
theorem ring_add {k m : Nat} (hk : k < 20) {A : AH} (h : RingInv k 0 m A) : RingInv (k + 1) 0 m (A.add 2 [3 * (k : Int), 3 * k] []) := by
  have w1 := WF_add h.wf (ring_ok hk h)
  refine ⟨w1, ?_, h.words, fun j hj => by omega, fun j _ hj => ?_⟩
  · show A.used + osz _ _ = _
    rw [h.used]; simp [osz]; omega
  · by_cases e : j = k
    · subst e
      have := find_new h.wf 2 [3 * (j : Int), 3 * j] []
      rwa [h.used] at this
    · exact find_mono (h.self j (Nat.zero_le _) (by omega))
theorem RingInv.has {k i m : Nat} {A : AH} (h : RingInv k i m A) {j : Nat} (hj : j < k) : A.has (3 * j) := by
  unfold AH.has
  by_cases e : j < i
  · rw [h.done j e]; simp
  · rw [h.self j (by omega) hj]; simp
theorem ring_setok {k i : Nat} {A : AH} (h : RingInv k i k A) (hi : i < k) : A.SetOk (3 * i) 1 (3 * (((i + 1) % k : Nat) : Int)) :=
  ⟨h.has hi, h.has (Nat.mod_lt _ (by omega)), by omega, by simp [AH.ptrs, h.self i (Nat.le_refl _) hi]⟩
theorem ring_set {k i : Nat} {A : AH} (h : RingInv k i k A) (hi : i < k) : RingInv k (i + 1) k (A.set (3 * i) 1 (3 * (((i + 1) % k : Nat) : Int))) := by
  have hs := h.self i (Nat.le_refl _) hi
  refine ⟨WF_set h.wf (ring_setok h hi), h.used, h.words, fun j hj => ?_, fun j hj hjk => ?_⟩
  · rw [set_find (h.has hi)]
    by_cases e : j = i
    · subst e
      rw [if_pos rfl]
      simp [AH.tag, AH.ptrs, AH.nums, hs]
    · rw [if_neg (by omega)]; exact h.done j (by omega)
  · rw [set_find (h.has hi), if_neg (by omega)]
    exact h.self j (by omega) hjk

/-- the place so far on -/
def posR (k s a : Nat) : Nat := if s + a < k then s + a else s + a - k
theorem posR_lt {k s a : Nat} (hs : s < k) (ha : a ≤ k) : posR k s a < k := by unfold posR; split <;> omega
theorem posR_inj {k s a b : Nat} (_hs : s < k) (ha : a < k) (hb : b < k) (h : posR k s a = posR k s b) : a = b := by unfold posR at h; split at h <;> split at h <;> omega
theorem posR_next {k s a : Nat} (hs : s < k) (ha : a < k) : (posR k s a + 1) % k = posR k s (a + 1) := by
  unfold posR
  by_cases h1 : s + a < k
  · rw [if_pos h1]
    by_cases h2 : s + (a + 1) < k
    · rw [if_pos h2, Nat.mod_eq_of_lt (by omega)]; omega
    · rw [if_neg h2, show s + a + 1 = k by omega, Nat.mod_self]; omega
  · rw [if_neg h1, if_neg (by omega), Nat.mod_eq_of_lt (by omega)]; omega

def ringOrd (k s n : Nat) : List (Int × Int) := (List.range n).map fun j : Nat => (3 * (posR k s j : Int), 3 * (j : Int))
theorem ringOrd_snoc (k s n : Nat) : ringOrd k s (n + 1) = ringOrd k s n ++ [(3 * (posR k s n : Int), 3 * (n : Int))] := by simp [ringOrd, List.range_succ]
theorem ringOrd_none {k s n : Nat} (hs : s < k) {j : Nat} (hj : j < k) (hn : n ≤ j) : lookI (3 * (posR k s j : Int)) (ringOrd k s n) = none := by
  rw [lookI_none]
  intro hm
  simp only [ringOrd, List.map_map, List.mem_map, List.mem_range, Function.comp] at hm
  obtain ⟨a, ha, e⟩ := hm
  have := posR_inj hs (by omega) hj (by omega : posR k s a = posR k s j)
  omega
theorem ringOrd_some {k s : Nat} (hs : s < k) : ∀ {n : Nat}, n ≤ k → ∀ {j : Nat}, j < n → lookI (3 * (posR k s j : Int)) (ringOrd k s n) = some (3 * (j : Int))
  | n + 1, hn, j, hj => by
    rw [ringOrd_snoc]
    by_cases e : j = n
    · subst e
      have := ringOrd_none (n := j) hs (show j < k by omega) (Nat.le_refl _)
      exact lookI_split _ (3 * (posR k s j : Int), 3 * (j : Int)) [] (lookI_none.1 this)
    · exact lookI_append _ (ringOrd_some hs (by omega) (by omega))

theorem ring_short {k : Nat} {A : AH} (h : RingInv k k k A) {j : Nat} (hj : j < k) (d : Nat) : A.short d (3 * j) = 3 * j :=
  short_not (h.done j hj) (by simp) (by simp) (by omega) d
theorem ring_ptrs {k : Nat} {A : AH} (h : RingInv k k k A) {s a : Nat} (hs : s < k) (ha : a < k) : A.ptrs (3 * (posR k s a : Int)) = [3 * (posR k s a : Int), 3 * (posR k s (a + 1) : Int)] := by
  have := h.done _ (posR_lt hs (Nat.le_of_lt ha))
  rw [posR_next hs ha] at this
  simp [AH.ptrs, this]
theorem ring_nums {k : Nat} {A : AH} (h : RingInv k k k A) {j : Nat} (hj : j < k) : A.nums (3 * (j : Int)) = [] := by simp [AH.nums, h.done j hj]

theorem ring_copied {k : Nat} {A : AH} (h : RingInv k k k A) {s : Nat} (hs : s < k) (d : Nat) {n : Nat} (hn : n ≤ k) {a : Nat} (ha : a ≤ n) (hak : a < k) :
    CS.copied A d ⟨ringOrd k s n, 3 * n⟩ (3 * (posR k s a : Int)) = (3 * (a : Int), if a = n then ⟨ringOrd k s (n + 1), 3 * ((n + 1 : Nat) : Int)⟩ else ⟨ringOrd k s n, 3 * n⟩) := by
  have hsh := ring_short h (posR_lt hs (Nat.le_of_lt hak)) d
  unfold CS.copied
  rw [hsh]
  by_cases e : a = n
  · subst e
    simp only [ringOrd_none hs hak (Nat.le_refl _), if_true]
    simp only [CS.put, ring_ptrs h hs hak, ring_nums h (posR_lt hs (Nat.le_of_lt hak)), ringOrd_snoc]
    simp [osz]
    omega
  · simp only [ringOrd_some hs hn (show a < n by omega), if_neg e]

theorem ring_run {k : Nat} {A : AH} (h : RingInv k k k A) {s : Nat} (hs : s < k) (d : Nat) : ∀ (f i : Nat), i ≤ k → k < f + i →
    CS.run A d f i ⟨ringOrd k s (if i < k then i + 1 else k), 3 * ((if i < k then i + 1 else k : Nat) : Int)⟩ = ⟨ringOrd k s k, 3 * k⟩ := by
  intro f
  induction f with
  | zero => intro i hi hf; omega
  | succ f ih =>
    intro i hi hf
    by_cases hlt : i < k
    · rw [if_pos hlt]
      unfold CS.run
      rw [dif_pos (by simp [ringOrd])]
      have hat : (ringOrd k s (i + 1))[i]'(by simp [ringOrd]) = (3 * (posR k s i : Int), 3 * (i : Int)) := by simp [ringOrd]
      simp only [hat, ring_ptrs h hs hlt]
      have key : (CS.all A d ⟨ringOrd k s (i + 1), 3 * ((i + 1 : Nat) : Int)⟩ [3 * (posR k s i : Int), 3 * (posR k s (i + 1) : Int)]).2 = ⟨ringOrd k s (if i + 1 < k then i + 1 + 1 else k), 3 * ((if i + 1 < k then i + 1 + 1 else k : Nat) : Int)⟩ := by
        simp only [CS.all, List.foldl_cons, List.foldl_nil, CS.stepAll]
        rw [ring_copied h hs d (n := i + 1) (by omega) (a := i) (by omega) hlt]
        simp only [show ¬ i = i + 1 by omega, if_false]
        by_cases e : i + 1 < k
        · rw [ring_copied h hs d (n := i + 1) (by omega) (a := i + 1) (Nat.le_refl _) e]
          simp only [if_true, e]
        · have e2 : i + 1 = k := by omega
          have e3 : posR k s (i + 1) = posR k s 0 := by rw [e2]; unfold posR; split <;> split <;> omega
          rw [e3, ring_copied h hs d (n := i + 1) (by omega) (a := 0) (by omega) (by omega)]
          simp only [show ¬ 0 = i + 1 by omega, if_false, e]
          rw [e2]
      rw [key]
      exact ih (i + 1) (by omega) (by omega)
    · have e : i = k := by omega
      subst e
      rw [if_neg (by omega)]
      unfold CS.run
      rw [dif_neg (by simp [ringOrd])]

theorem objs_of_keys {A : AH} {k : Nat} (h : ∀ j, j < k → A.has (3 * (j : Int))) : k ≤ A.objs.length := by
  have h1 := len_sub ((List.range k).map fun j : Nat => 3 * (j : Int)) (A.objs.map (·.1)) (by
    rw [List.nodup_iff_pairwise_ne, List.pairwise_map]
    exact (List.nodup_range (n := k)).imp (fun h e => h (by omega))) (by
    intro x hx
    obtain ⟨j, hj, rfl⟩ := List.mem_map.1 hx
    exact has_iff.1 (h j (by simpa using hj)))
  simpa using h1

/-- what GcRings asks -/
theorem rings_law {k : Nat} {A : AH} (h : RingInv k k k A) {s : Nat} (hs : s < k) (d : Nat) :
    A.told d [3 * (s : Int)] = [0] ∧ (A.gcd d (A.final d [3 * (s : Int)])).used = 3 * k ∧
      ∀ j : Nat, j < k → (A.gcd d (A.final d [3 * (s : Int)])).ptrs (3 * (j : Int)) = [3 * (j : Int), 3 * ((if j + 1 < k then j + 1 else 0 : Nat) : Int)] := by
  have hp0 : posR k s 0 = s := by unfold posR; split <;> omega
  have hall : CS.all A d ⟨[], 0⟩ [3 * (s : Int)] = ([0], ⟨ringOrd k s 1, 3⟩) := by
    have := ring_copied h hs d (n := 0) (by omega) (a := 0) (by omega) (by omega)
    rw [hp0] at this
    simp only [CS.all, List.foldl_cons, List.foldl_nil, CS.stepAll]
    have e0 : (⟨ringOrd k s 0, 3 * ((0 : Nat) : Int)⟩ : CS) = ⟨[], 0⟩ := by simp [ringOrd]
    rw [e0] at this
    rw [this]
    simp
  have hfin : A.final d [3 * (s : Int)] = ⟨ringOrd k s k, 3 * k⟩ := by
    unfold AH.final
    rw [hall]
    have := ring_run h hs d (A.objs.length + 1) 0 (by omega) (by have := objs_of_keys (A := A) (k := k) (fun j hj => h.has hj); omega)
    rw [if_pos (by omega)] at this
    exact this
  have hr : ∀ q ∈ [3 * (s : Int)], A.has q := by intro q hq; rw [List.mem_singleton] at hq; subst hq; exact h.has hs
  obtain ⟨hi, ha, _, _⟩ := final_inv h.wf d hr
  refine ⟨by unfold AH.told; rw [hall], by rw [gcd_used hi, hfin], fun j hj => ?_⟩
  have hm : (3 * (posR k s j : Int), 3 * (j : Int)) ∈ (A.final d [3 * (s : Int)]).ord := by
    rw [hfin]; simp only [ringOrd, List.mem_map, List.mem_range]; exact ⟨j, hj, rfl⟩
  have := gcd_find (d := d) h.wf hi ha hm
  simp only at this
  unfold AH.ptrs
  rw [this]
  simp only [Option.map_some, Option.getD_some, CS.row, ring_ptrs h hs hj, List.map_cons, List.map_nil, CS.new, hfin]
  rw [ring_short h (posR_lt hs (Nat.le_of_lt hj)), ring_short h (posR_lt hs (by omega : j + 1 ≤ k)), ringOrd_some hs (Nat.le_refl _) hj]
  by_cases e : j + 1 < k
  · rw [ringOrd_some hs (Nat.le_refl _) e, if_pos e]; rfl
  · have e3 : posR k s (j + 1) = posR k s 0 := by rw [show j + 1 = k by omega]; unfold posR; split <;> split <;> omega
    rw [e3, ringOrd_some hs (Nat.le_refl _) (show 0 < k by omega), if_neg e]; rfl
theorem rings_none (A : AH) (d : Nat) : (A.gcd d (A.final d [])).used = 0 := by
  simp [AH.final, CS.all, CS.run, AH.gcd, ofP, sumAt]
end Go.Proofs.Ytjhdnbediipibaa
