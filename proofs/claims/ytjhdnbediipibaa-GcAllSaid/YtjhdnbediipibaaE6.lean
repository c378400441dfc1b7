import Derived.Test.YtjhdnbediipibaaE5
import Derived.Test.YtjhdnbediipibaaP7
/-! pick; the two heaps side by side. -/
namespace Go.Proofs.Ytjhdnbediipibaa
open Go.RowKit

/-- what pick chooses -/
def AH.pickV (A : AH) (n : Int) : Int := if A.keys.length = 0 ∨ n % 19 = 0 then wrap64 (n.tdiv 19) % 30 - 3 else A.keys.getD (n % (A.keys.length : Int)).toNat 0

set_option maxRecDepth 100000 in
theorem pick_any {w : World} {xb : Nat} {A : AH} {fp : List Nat} (h : RH w xb A fp) (hlen : A.objs.length ≤ 1000000) (n : Int) :
    Calls Try.prog 55 #[.pointer (some ⟨xb, 0, none⟩), .int .i64 n] w fun e w' => e = .returned (Kv (A.pickV n)) ∧ Grew w w' := by
  have hob := robjects_any h hlen
  have hkl : A.keys.length ≤ 1000000 := by simpa [AH.keys] using hlen
  have hv : A.pickV n = if A.keys.length = 0 ∨ n % 19 = 0 then wrap64 (n.tdiv 19) % 30 - 3 else A.keys.getD (n % (A.keys.length : Int)).toNat 0 := rfl
  have h19 := fun w => within11_any n 19 w (by omega) (by omega)
  have h30 := fun w => within11_any (wrap64 (n.tdiv 19)) 30 w (by omega) (by omega)
  have hq := Int.emod_nonneg (wrap64 (n.tdiv 19)) (show (30 : Int) ≠ 0 by omega)
  have hq2 := Int.emod_lt_of_pos (wrap64 (n.tdiv 19)) (show (0 : Int) < 30 by omega)
  clear h
  go_enter Try.func55, Try.ntmps55
  go_wp2_with fail
  refine hob.mono ?_
  rintro e w1 ⟨v, rfl, o1, g1, _⟩
  obtain ⟨va, vc, rfl, hvc, _⟩ := o1.shape
  have HG := hid g1
  clear hob g1
  by_cases hk : A.keys.length = 0
  · rw [if_pos (.inl hk)] at hv
    have HV := hid hv
    rw [hk]
    clear hv o1 hkl hvc
    generalize wrap64 (n.tdiv 19) % 30 = q at *
    go_wp2_with fail
    refine (h30 _).mono ?_
    rintro e w' ⟨rfl, rfl⟩
    go_wp2
    go_ret
    exact ⟨by rw [HV.out]; rfl, HG.out⟩
  · have hk1 : (A.keys.length : Int) ≠ 0 := by omega
    have hk0 : ((A.keys.length : Int) == 0) = false := by simpa using hk1
    by_cases hn : n % 19 = 0
    · rw [if_pos (.inr hn)] at hv
      have HV := hid hv
      rw [hn] at h19
      clear hv o1 hk hk1
      generalize wrap64 (n.tdiv 19) % 30 = q at *
      go_wp2_with fail
      refine (h19 _).mono ?_
      rintro e w' ⟨rfl, rfl⟩
      go_wp2_with fail
      refine (h30 _).mono ?_
      rintro e w' ⟨rfl, rfl⟩
      go_wp2
      go_ret
      exact ⟨by rw [HV.out]; rfl, HG.out⟩
    · rw [if_neg (by omega)] at hv
      have hn0 : (n % 19 == 0) = false := by simpa using hn
      generalize n % 19 = r at *
      have hll := fun w => within11_any n A.keys.length w (by omega) (by omega)
      have b1 := Int.emod_nonneg n hk1
      have b2 := Int.emod_lt_of_pos n (show (0 : Int) < A.keys.length by omega)
      obtain ⟨m, hm⟩ : ∃ m : Nat, n % (A.keys.length : Int) = m := ⟨(n % (A.keys.length : Int)).toNat, by omega⟩
      rw [hm] at hll hv b2
      have hml : m < A.keys.length := by omega
      obtain ⟨g, cap, he, _, _, _, hc⟩ := o1.at (by omega)
      cases he
      have hcm := (hc m hml).1
      have hv2 : A.pickV n = A.keys[m] := by rw [hv]; simp [hml]
      obtain ⟨z, hz⟩ : ∃ z, A.keys[m] = z := ⟨_, rfl⟩
      rw [hz] at hcm hv2
      have HV := hid hv2
      clear hv hv2 hz hc o1 hk hn b1 hm
      go_wp2_with fail
      refine (h19 _).mono ?_
      rintro e w' ⟨rfl, rfl⟩
      go_wp2_with fail
      refine (hll _).mono ?_
      rintro e w' ⟨rfl, rfl⟩
      go_wp2
      go_ret
      exact ⟨by rw [HV.out]; rfl, HG.out⟩

/-- two heaps side by side, the same data -/
def Two (w : World) (hb xb : Nat) (A : AH) (fp : List Nat) : Prop :=
  ∃ f1 f2, fp = f1 ++ f2 ∧ PH w hb A f1 ∧ RH w xb A f2 ∧ ∀ b ∈ f1, b ∉ f2
theorem Two.kept {w w' : World} {F : Nat → Prop} {hb xb : Nat} {A : AH} {fp : List Nat} (h : Two w hb xb A fp) (k : Fr F w w') (hF : ∀ b ∈ fp, ¬ F b) : Two w' hb xb A fp := by
  obtain ⟨f1, f2, rfl, h1, h2, h3⟩ := h
  exact ⟨f1, f2, rfl, h1.kept k (fun b hb => hF b (by simp [hb])), h2.kept k (fun b hb => hF b (by simp [hb])), h3⟩
theorem Two.grew {w w' : World} {hb xb : Nat} {A : AH} {fp : List Nat} (h : Two w hb xb A fp) (k : Grew w w') : Two w' hb xb A fp := h.kept k (fun _ _ f => f)
theorem Two.lt {w : World} {hb xb : Nat} {A : AH} {fp : List Nat} (h : Two w hb xb A fp) : ∀ b ∈ fp, b < w.heap.size := by
  obtain ⟨f1, f2, rfl, h1, h2, h3⟩ := h
  intro b hb'
  rcases List.mem_append.1 hb' with e | e
  · exact h1.lt b e
  · exact h2.lt b e
/-- what a step leaves -/
def Went (w : World) (hb xb : Nat) (fp : List Nat) (A' : AH) (w' : World) : Prop :=
  ∃ fp', Two w' hb xb A' fp' ∧ Fr (· ∈ fp) w w' ∧ ∀ b ∈ fp', b ∈ fp ∨ w.heap.size ≤ b
/-- first the one, then the other -/
theorem Two.both {w : World} {hb xb : Nat} {A : AH} {fp : List Nat} (h : Two w hb xb A fp) :
    ∃ f1 f2, PH w hb A f1 ∧ RH w xb A f2 ∧ ∀ (w1 w2 w3 : World) (A' : AH) f1', PH w1 hb A' f1' → Fr (· ∈ f1) w w1 → (∀ b ∈ f1', b ∈ f1 ∨ w.heap.size ≤ b) → Grew w1 w2 →
      RH w2 xb A f2 ∧ ∀ f2', RH w3 xb A' f2' → Fr (· ∈ f2) w2 w3 → (∀ b ∈ f2', b ∈ f2 ∨ w2.heap.size ≤ b) → Went w hb xb fp A' w3 := by
  obtain ⟨f1, f2, rfl, h1, h2, h3⟩ := h
  refine ⟨f1, f2, h1, h2, fun w1 w2 w3 A' f1' k1 k2 k3 k4 => ?_⟩
  have hs1 := k2.size
  have hs2 := k4.size
  refine ⟨(h2.kept k2 (fun b hb hb' => h3 b hb' hb)).grew k4, fun f2' j1 j2 j3 => ?_⟩
  have hs3 := j2.size
  refine ⟨f1' ++ f2', ⟨f1', f2', rfl, (k1.grew k4).kept j2 (fun b hb hb' => ?_), j1, fun b hb hb' => ?_⟩, ?_, ?_⟩
  · rcases k3 b hb with e | e
    · exact h3 b e hb'
    · have := h2.lt b hb'; omega
  · rcases k3 b hb with e | e <;> rcases j3 b hb' with e' | e'
    · exact h3 b e e'
    · have := h1.lt b e; omega
    · have := h2.lt b e'; omega
    · have := k1.lt b hb; omega
  · exact ((k2.mono (fun i _ hi => by simp [hi])).trans (G := fun i => i ∈ f2) (Fr.trans (Grew.any k4) j2 (fun _ _ f => f)) (fun i _ hi => by simp [hi]))
  · intro b hb
    rcases List.mem_append.1 hb with e | e
    · rcases k3 b e with q | q
      · exact .inl (by simp [q])
      · exact .inr q
    · rcases j3 b e with q | q
      · exact .inl (by simp [q])
      · exact .inr (by omega)
theorem Went.same {w w' : World} {hb xb : Nat} {A : AH} {fp : List Nat} (h : Two w hb xb A fp) (g : Grew w w') : Went w hb xb fp A w' :=
  ⟨fp, h.grew g, g.any, fun _b hb => .inl hb⟩

theorem WF_over {A : AH} (h : A.WF) {k to : Int} (ok : A.OverOk k to) : (A.over k to).WF := by
  obtain ⟨h1, h2, h3⟩ := ok
  obtain ⟨o, ho, hm⟩ := AH.has_find h1
  have hsz : (HObj.mk 5 [to] []).sz ≤ o.sz := by
    have : 2 ≤ osz o.ptrs o.nums := osz_ge _ _
    simp [HObj.sz, osz] at this ⊢; omega
  have hkeys : (A.over k to).objs.map (·.1) = A.objs.map (·.1) := updO_keys _ _ _
  have hhas : ∀ x, (A.over k to).has x ↔ A.has x := fun x => by rw [has_iff, has_iff, hkeys]
  refine ⟨?_, ?_, ?_, ?_, ?_, h.uw, h.w0⟩
  · intro q hq
    rcases updO_mem hq with hq | rfl
    · exact h.shaped q hq
    · show ShapeOk 5 [to] []
      exact ⟨by omega, by omega, by simp, by simp, fun e => by omega, fun _ => ⟨rfl, rfl⟩, fun e => by omega⟩
  · intro q hq x hx
    rw [hhas]
    rcases updO_mem hq with hq | rfl
    · exact h.closed q hq x hx
    · simp at hx; subst hx; exact h2
  · rw [hkeys]; exact h.keys
  · intro q hq
    rcases updO_mem hq with hq | rfl
    · exact h.range q hq
    · exact h.range (k, o) hm
  · have gen : ∀ l : List (Int × HObj), lookO k l = some o → sumSz (updO k ⟨5, [to], []⟩ l) ≤ sumSz l := by
      intro l
      induction l with
      | nil => intro h; simp [lookO] at h
      | cons p r ih =>
        intro hl
        unfold lookO at hl
        unfold updO
        split at hl
        · rename_i e; cases hl; rw [if_pos e]; simp only [sumSz]; omega
        · rename_i e; rw [if_neg e]; have := ih hl; simp only [sumSz] at this ⊢; omega
    have h5 := gen _ ho
    have h6 := h.sum
    show sumSz (updO k ⟨5, [to], []⟩ A.objs) ≤ A.used
    omega
end Go.Proofs.Ytjhdnbediipibaa
