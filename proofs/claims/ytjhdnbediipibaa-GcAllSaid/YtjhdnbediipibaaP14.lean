import Derived.Test.YtjhdnbediipibaaP13
/-! Collected again by its roots, what is left stays. -/
namespace Go.Proofs.Ytjhdnbediipibaa
open Go.RowKit

theorem run_grows (A : AH) (d : Nat) : ∀ (f i : Nat) (s : CS), ∃ m, (CS.run A d f i s).ord = s.ord ++ m
  | 0, _, s => ⟨[], by simp [CS.run]⟩
  | f + 1, i, s => by
    unfold CS.run
    split
    · obtain ⟨m, hm⟩ := run_grows A d f (i + 1) (s.all A d (A.ptrs s.ord[i].1)).2
      obtain ⟨⟨m2, hm2⟩, _⟩ := all_grows A d s (A.ptrs s.ord[i].1)
      exact ⟨m2 ++ m, by rw [hm, hm2, List.append_assoc]⟩
    · exact ⟨[], by simp⟩
theorem RunInv.fore {A : AH} {d : Nat} {roots : List Int} {i : Nat} {s : CS} (r : RunInv A d roots i s) : ∃ m, (A.final d roots).ord = s.ord ++ m := by
  rw [← r.fin]; exact run_grows A d _ i s

/-- the same, by the new addresses -/
def CS.im (s : CS) : CS := ⟨s.ord.map (fun p => (p.2, p.2)), s.used⟩

section
variable {A : AH} {roots : List Int}

theorem left_short (h : A.WF) (hr : ∀ k ∈ roots, A.has k) {y : Int} (hy : (A.gcd 0 (A.final 0 roots)).has y) : (A.gcd 0 (A.final 0 roots)).short 0 y = y := by
  have hW := WF_gcd h 0 hr
  show (A.gcd 0 (A.final 0 roots)).base y = y
  by_cases h5 : (A.gcd 0 (A.final 0 roots)).tag y = 5
  · exact base_neg (rest_law h hr hy h5)
  · obtain ⟨o, ho, _⟩ := AH.has_find hy
    exact base_of ho (fun e => h5 (by simp [AH.tag, ho, e])) (hW.ge0 hy)

theorem im_look {s : CS} (hi : CS.Inv A s) (ha : CS.Addr A s) {y : Int} (hy : y ∈ s.ord.map (·.2)) : lookI y s.im.ord = some y := by
  refine lookI_of_mem ?_ ?_
  · have := addr_nodup hi ha
    have e : s.im.ord.map (·.1) = s.ord.map (·.2) := by unfold CS.im; rw [List.map_map]; rfl
    rw [e]
    exact this.imp (fun hlt e => by omega)
  · obtain ⟨p, hp, rfl⟩ := List.mem_map.1 hy
    exact List.mem_map.2 ⟨p, hp, rfl⟩

theorem im_copied (h : A.WF) (hr : ∀ k ∈ roots, A.has k) {s : CS} (hi : CS.Inv A s) (ha : CS.Addr A s) {q : Int} (hp : ∃ m, (A.final 0 roots).ord = (s.copied A 0 q).2.ord ++ m) :
    CS.copied (A.gcd 0 (A.final 0 roots)) 0 s.im ((A.final 0 roots).new A 0 q) = ((A.final 0 roots).new A 0 q, (s.copied A 0 q).2.im) := by
  obtain ⟨m, hm⟩ := hp
  have h1 := (copied_grows A 0 s q).2
  have h2 : lookI (A.short 0 q) (A.final 0 roots).ord = some (s.copied A 0 q).1 := by rw [hm]; exact lookI_append m h1
  have h3 : (A.final 0 roots).new A 0 q = (s.copied A 0 q).1 := by simp [CS.new, h2]
  obtain ⟨_, hB, _, hnu, hpt, _⟩ := left_is h hr h2
  have hsh := left_short h hr hB
  rw [h3]
  cases hl : lookI (A.short 0 q) s.ord with
  | some n =>
    have e : s.copied A 0 q = (n, s) := by simp [CS.copied, hl]
    rw [e] at hsh hB ⊢
    simp only at hsh hB ⊢
    unfold CS.copied
    rw [hsh, im_look hi ha (lookI_mem hl)]
  | none =>
    have e : s.copied A 0 q = (s.used, s.put A (A.short 0 q)) := by simp [CS.copied, hl]
    rw [e] at hsh hB hnu hpt ⊢
    simp only at hsh hB hnu hpt ⊢
    have hno : lookI s.used s.im.ord = none := by
      rw [lookI_none]
      intro hmem
      have e : s.im.ord.map (·.1) = s.ord.map (·.2) := by unfold CS.im; rw [List.map_map]; rfl
      rw [e] at hmem
      obtain ⟨p, hp, hpe⟩ := List.mem_map.1 hmem
      have := addr_lt hi ha (o1 := s.ord) (o2 := []) (by simp) hp
      have hu := hi.used
      omega
    unfold CS.copied
    rw [hsh, hno]
    simp only [CS.put, CS.im, hnu, hpt, List.map_append, List.map_cons, List.map_nil]
    congr 2
    unfold osz
    rw [List.length_map]

theorem im_all (h : A.WF) (hr : ∀ k ∈ roots, A.has k) {s : CS} (hi : CS.Inv A s) (ha : CS.Addr A s) (l : List Int) (hl : ∀ q ∈ l, A.has q) (hp : ∃ m, (A.final 0 roots).ord = (s.all A 0 l).2.ord ++ m) :
    CS.all (A.gcd 0 (A.final 0 roots)) 0 s.im (l.map ((A.final 0 roots).new A 0)) = (l.map ((A.final 0 roots).new A 0), (s.all A 0 l).2.im) := by
  refine snoc_ind (P := fun l => (∀ q ∈ l, A.has q) → (∃ m, (A.final 0 roots).ord = (s.all A 0 l).2.ord ++ m) →
    CS.all (A.gcd 0 (A.final 0 roots)) 0 s.im (l.map ((A.final 0 roots).new A 0)) = (l.map ((A.final 0 roots).new A 0), (s.all A 0 l).2.im)) (fun _ _ => rfl) (fun l k ih hl hp => ?_) l hl hp
  have hl' : ∀ q ∈ l, A.has q := fun q hq => hl q (by simp [hq])
  rw [CS.all_snoc] at hp ⊢
  simp only [CS.stepAll] at hp ⊢
  obtain ⟨m, hm⟩ := hp
  obtain ⟨⟨m2, hm2⟩, _⟩ := copied_grows A 0 (s.all A 0 l).2 k
  have h1 := ih hl' ⟨m2 ++ m, by rw [hm, hm2, List.append_assoc]⟩
  rw [List.map_append, List.map_cons, List.map_nil, CS.all_snoc, h1]
  simp only [CS.stepAll]
  rw [im_copied h hr (hi.all h 0 l hl') (ha.all h hi 0 l hl') ⟨m, hm⟩]

theorem im_run (h : A.WF) (hr : ∀ k ∈ roots, A.has k) : ∀ (n i : Nat) (s : CS), A.objs.length - i = n → RunInv A 0 roots i s → RunInv (A.gcd 0 (A.final 0 roots)) 0 (A.told 0 roots) i s.im →
    (A.gcd 0 (A.final 0 roots)).final 0 (A.told 0 roots) = (A.final 0 roots).im := by
  intro n
  induction n using Nat.strongRecOn with
  | _ n ih =>
    intro i s hn r rB
    have hle := r.lenle h
    have hW := WF_gcd h 0 hr
    have hlen : s.im.ord.length = s.ord.length := by unfold CS.im; rw [List.length_map]
    by_cases hi : i < s.ord.length
    · have hiB : i < s.im.ord.length := by omega
      have r1 := r.step h hi
      have rB1 := rB.step hW hiB
      have he : s.im.ord[i] = (s.ord[i].2, s.ord[i].2) := by simp [CS.im]
      obtain ⟨fi, _, _, _⟩ := final_inv h 0 hr
      obtain ⟨m, hm⟩ := r.fore
      have hlk : lookI s.ord[i].1 (A.final 0 roots).ord = some s.ord[i].2 := lookI_of_mem fi.nodup (by rw [hm]; exact List.mem_append_left _ (List.getElem_mem hi))
      obtain ⟨_, _, _, _, hpt, _⟩ := left_is h hr hlk
      rw [he] at rB1
      simp only at rB1
      rw [hpt, im_all h hr r.inv r.addr _ (fun q hq => h.ptr_has hq) r1.fore] at rB1
      exact ih (A.objs.length - (i + 1)) (by omega) (i + 1) _ rfl r1 rB1
    · have hiB : ¬ i < s.im.ord.length := by omega
      rw [← (rB.finish hW hiB).1, ← (r.finish h hi).1]

/-- COLLECTED AGAIN, BY THE SAME ROOTS, A HEAP IS AS IT WAS -/
theorem again_law (h : A.WF) (hr : ∀ k ∈ roots, A.has k) :
    (∀ t ∈ A.told 0 roots, (A.gcd 0 (A.final 0 roots)).has t) ∧ (A.gcd 0 (A.final 0 roots)).told 0 (A.told 0 roots) = A.told 0 roots ∧
    ((A.gcd 0 (A.final 0 roots)).gcd 0 ((A.gcd 0 (A.final 0 roots)).final 0 (A.told 0 roots))).keys = (A.gcd 0 (A.final 0 roots)).keys ∧
    ∀ y, (A.gcd 0 (A.final 0 roots)).has y →
      ((A.gcd 0 (A.final 0 roots)).gcd 0 ((A.gcd 0 (A.final 0 roots)).final 0 (A.told 0 roots))).tag y = (A.gcd 0 (A.final 0 roots)).tag y ∧
      ((A.gcd 0 (A.final 0 roots)).gcd 0 ((A.gcd 0 (A.final 0 roots)).final 0 (A.told 0 roots))).ptrs y = (A.gcd 0 (A.final 0 roots)).ptrs y ∧
      ((A.gcd 0 (A.final 0 roots)).gcd 0 ((A.gcd 0 (A.final 0 roots)).final 0 (A.told 0 roots))).nums y = (A.gcd 0 (A.final 0 roots)).nums y := by
  have hW := WF_gcd h 0 hr
  obtain ⟨ht, htz⟩ := told_is (d := 0) h hr
  have hth : ∀ t ∈ A.told 0 roots, (A.gcd 0 (A.final 0 roots)).has t := by
    intro t htm
    rw [ht] at htm
    obtain ⟨q, hq, rfl⟩ := List.mem_map.1 htm
    obtain ⟨z, hz1, hz2⟩ := htz q hq
    rw [hz2]
    exact (left_is h hr hz1).2.1
  have r0 := RunInv.start h 0 hr
  have hall := im_all h hr (CS.Inv.nil A) (CS.Addr.nil A) roots hr r0.fore
  rw [← ht] at hall
  have hall' : CS.all (A.gcd 0 (A.final 0 roots)) 0 ⟨[], 0⟩ (A.told 0 roots) = (A.told 0 roots, (CS.all A 0 ⟨[], 0⟩ roots).2.im) := hall
  have rB0 := RunInv.start hW 0 hth
  rw [hall'] at rB0
  have hfin := im_run h hr _ 0 _ rfl r0 rB0
  obtain ⟨fi, fa, _, _⟩ := final_inv h 0 hr
  refine ⟨hth, by show (CS.all _ 0 ⟨[], 0⟩ _).1 = _; rw [hall'], ?_, fun y hy => ?_⟩
  · have e1 := gcd_keys (A.gcd 0 (A.final 0 roots)) 0 ((A.gcd 0 (A.final 0 roots)).final 0 (A.told 0 roots))
    have e2 := gcd_keys A 0 (A.final 0 roots)
    unfold AH.keys
    rw [e1, e2, hfin]
    unfold CS.im
    rw [List.map_map]; rfl
  · have hmem : ∀ {y}, (A.gcd 0 (A.final 0 roots)).has y → lookI y ((A.gcd 0 (A.final 0 roots)).final 0 (A.told 0 roots)).ord = some y := by
      intro y hy
      rw [hfin]
      exact im_look fi fa (by rw [← gcd_keys A 0]; exact has_iff.1 hy)
    obtain ⟨_, _, h1, h2, h3, h4⟩ := left_is hW hth (hmem hy)
    refine ⟨h1, ?_, h2⟩
    rw [h3]
    have : ∀ q ∈ (A.gcd 0 (A.final 0 roots)).ptrs y, ((A.gcd 0 (A.final 0 roots)).final 0 (A.told 0 roots)).new (A.gcd 0 (A.final 0 roots)) 0 q = q := by
      intro q hq
      have hqh := hW.ptr_has hq
      unfold CS.new
      rw [left_short h hr hqh, hmem hqh]; rfl
    rw [List.map_congr_left this, List.map_id']
end
end Go.Proofs.Ytjhdnbediipibaa
