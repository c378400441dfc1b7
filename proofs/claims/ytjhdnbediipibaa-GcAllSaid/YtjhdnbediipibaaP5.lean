import Derived.Test.YtjhdnbediipibaaP4
/-! Plain: what is left is well made; the row of selectors that hang on one another (GcLeak). -/
namespace Go.Proofs.Ytjhdnbediipibaa

theorem gcd_keys (A : AH) (d : Nat) (s : CS) : (A.gcd d s).objs.map (·.1) = s.ord.map (·.2) :=
  zip_keys (Fits.map _ (row_len A d s) s.ord)

theorem sumSz_gcd {A : AH} {d : Nat} {s : CS} : ∀ (o : List (Int × Int)), (∀ k ∈ o.map (·.1), A.has k) →
    sumSz (List.zipWith (layRow A) o (o.map (s.row A d))) = sumAt A (o.map (·.1))
  | [], _ => rfl
  | p :: o, h => by
    simp only [List.map_cons, List.zipWith_cons_cons, sumSz, sumAt]
    rw [sumSz_gcd o (fun k hk => h k (by simp [hk]))]
    obtain ⟨e1, e2, _⟩ := ptrs_obj (h p.1 (by simp))
    have : (layRow A p (s.row A d p)).2.sz = (A.obj p.1).sz := by
      simp only [layRow, HObj.sz, osz, row_len, e1, e2]
    omega

/-- what is left is well made -/
theorem WF_gcd {A : AH} (h : A.WF) (d : Nat) {roots : List Int} (hr : ∀ k ∈ roots, A.has k) : (A.gcd d (A.final d roots)).WF := by
  obtain ⟨hi, ha, hc, _⟩ := final_inv h d hr
  generalize A.final d roots = s at *
  have hf : Fits A s.ord (s.ord.map (s.row A d)) := Fits.map _ (row_len A d s) s.ord
  obtain ⟨f1, f2⟩ := ofP_fine (o2 := []) h hi ha (by simp) hf
  refine ⟨f2, ?_, ?_, ?_, ?_, f1.uw, h.w0⟩
  · intro q hq x hx
    obtain ⟨p, l, hp, hl, hll, rfl⟩ := zip_mem hf hq
    simp only [layRow] at hx
    obtain ⟨p', hp', rfl⟩ := List.mem_map.1 hl
    obtain ⟨y, hy, rfl⟩ := List.mem_map.1 hx
    rw [has_iff, gcd_keys]
    simp only [CS.new]
    cases hk : lookI (A.short d y) s.ord with
    | none => exact absurd hk (hc p' hp' y hy)
    | some n => exact lookI_mem hk
  · rw [gcd_keys]; exact addr_nodup hi ha
  · intro q hq
    have hm : q.1 ∈ (A.gcd d s).objs.map (·.1) := List.mem_map.2 ⟨q, hq, rfl⟩
    rw [gcd_keys] at hm
    obtain ⟨p, hp, e⟩ := List.mem_map.1 hm
    have := addr_lt (o2 := []) hi ha (by simp) hp
    rw [← e]; exact this
  · show sumSz (List.zipWith (layRow A) s.ord (s.ord.map (s.row A d))) ≤ sumAt A (s.ord.map (·.1))
    rw [sumSz_gcd s.ord hi.has]
    exact Int.le_refl _

/-- so many selectors, of which each hangs on the last one, and nil behind them -/
inductive Hang (A : AH) : Nat → Int → Prop
  | nil {k : Int} : 0 ≤ k → A.find k = some ⟨7, [], []⟩ → Hang A 0 k
  | sel {m : Nat} {k b c n : Int} : 0 ≤ k → 0 ≤ b → A.find k = some ⟨6, [b], [n]⟩ → A.find b = some ⟨2, [c, c], []⟩ → (n = 0 ∨ n = 1) → Hang A m c → Hang A (m + 1) k

theorem Hang.add {A : AH} {m : Nat} {k : Int} (h : Hang A m k) (t : Int) (p n : List Int) : Hang (A.add t p n) m k := by
  induction h with
  | nil h0 h1 => exact .nil h0 (find_mono h1)
  | sel h0 h1 h2 h3 h4 _ ih => exact .sel h0 h1 (find_mono h2) (find_mono h3) h4 ih

theorem Hang.has {A : AH} {m : Nat} {k : Int} (h : Hang A m k) : A.has k := by
  cases h with
  | nil _ h => unfold AH.has; rw [h]; simp
  | sel _ _ h => unfold AH.has; rw [h]; simp

theorem short_not {A : AH} {k : Int} {o : HObj} (hf : A.find k = some o) (h5 : o.tag ≠ 5) (h6 : o.tag ≠ 6) (h0 : 0 ≤ k) : ∀ d : Nat, A.short d k = k
  | 0 => base_of hf h5 h0
  | d + 1 => by
    have hb := base_of hf h5 h0
    have ht : A.tag k ≠ 6 := by simp [AH.tag, hf, h6]
    simp only [AH.short, hb, ht, if_false]

theorem Hang.short {A : AH} {m : Nat} {k : Int} (h : Hang A m k) : ∀ d : Nat, m ≤ d → ∃ z, A.short d k = z ∧ A.find z = some ⟨7, [], []⟩ := by
  induction h with
  | nil h0 h1 => exact fun d _ => ⟨_, short_not h1 (by simp) (by simp) h0 d, h1⟩
  | @sel m k b c n h0 h1 h2 h3 h4 _ ih =>
    intro d hd
    obtain ⟨d, rfl⟩ : ∃ e, d = e + 1 := ⟨d - 1, by omega⟩
    obtain ⟨z, hz, hf⟩ := ih d (by omega)
    refine ⟨z, ?_, hf⟩
    have hb : A.base k = k := base_of h2 (by simp) h0
    have ht : A.tag k = 6 := by simp [AH.tag, h2]
    have hptr : A.ptrs k = [b] := by simp [AH.ptrs, h2]
    have hnum : A.nums k = [n] := by simp [AH.nums, h2]
    have hsb : A.short d b = b := short_not h3 (by simp) (by simp) h1 d
    have htb : A.tag b = 2 := by simp [AH.tag, h3]
    have hpb : A.ptrs b = [c, c] := by simp [AH.ptrs, h3]
    have : A.short (d + 1) k = A.short d c := by
      simp only [AH.short, hb, ht, if_true, hptr, List.getD_cons_zero, hsb, htb, hpb, hnum]
      rcases h4 with e | e <;> rw [e] <;> rfl
    rw [this, hz]

/-- a heap in a round of GcLeak -/
structure LeakInv (e i : Nat) (A : AH) (last : Int) : Prop where
  wf : A.WF
  words : A.words = 3000
  used : A.used ≤ 8 + 6 * i
  has : A.has last
  hang : e ≤ 18 → ∃ m, m ≤ i % e + 1 ∧ Hang A m last

def leak0 : AH := (((⟨[], 0, 3000⟩ : AH).add 7 [] []).add 2 [0, 0] []).add 6 [2] [1]
theorem leak0_ok : (⟨[], 0, 3000⟩ : AH).AllocOk 7 [] [] ∧ ((⟨[], 0, 3000⟩ : AH).add 7 [] []).AllocOk 2 [0, 0] [] ∧ (((⟨[], 0, 3000⟩ : AH).add 7 [] []).add 2 [0, 0] []).AllocOk 6 [2] [1] := by decide
theorem leak0_wf : (⟨[], 0, 3000⟩ : AH).WF ∧ ((⟨[], 0, 3000⟩ : AH).add 7 [] []).WF ∧ (((⟨[], 0, 3000⟩ : AH).add 7 [] []).add 2 [0, 0] []).WF ∧ leak0.WF := by
  obtain ⟨h1, h2, h3⟩ := leak0_ok
  have w0 := WF_new 3000 (by omega) (by omega)
  have w1 := WF_add w0 h1
  have w2 := WF_add w1 h2
  exact ⟨w0, w1, w2, WF_add w2 h3⟩
theorem leak0_inv (e : Nat) : LeakInv e 0 leak0 5 :=
  ⟨leak0_wf.2.2.2, rfl, by decide, by decide, fun _ => ⟨1, by omega, .sel (b := 2) (c := 0) (n := 1) (by decide) (by decide) (by decide) (by decide) (.inr rfl) (.nil (by decide) (by decide))⟩⟩

theorem leak_ok1 {e i : Nat} {A : AH} {last : Int} (h : LeakInv e i A last) (hi : i < 300) : A.AllocOk 2 [last, last] [] := by
  refine ⟨⟨by decide, by decide, by simp, by simp, fun _ => ⟨by simp, by simp⟩, fun e => by simp at e, fun e => by simp at e⟩, fun x hx => .inl (by simp at hx; subst hx; exact h.has), ?_⟩
  rw [h.words]; have := h.used; simp [osz]; omega
theorem leak_ok2 {e i : Nat} {A : AH} {last : Int} (h : LeakInv e i A last) (hi : i < 300) : (A.add 2 [last, last] []).AllocOk 6 [A.used] [((i % 2 : Nat) : Int)] := by
  refine ⟨⟨by decide, by decide, by simp, by simp, fun e => by simp at e, fun e => by simp at e, fun _ => ⟨rfl, rfl, ?_⟩⟩, fun x hx => .inl ?_, ?_⟩
  · rcases (by omega : i % 2 = 0 ∨ i % 2 = 1) with q | q <;> rw [q] <;> simp
  · rw [List.mem_singleton] at hx; subst hx
    rw [add_has]; exact .inr rfl
  · show A.used + osz [last, last] [] + _ ≤ A.words
    rw [h.words]; have := h.used
    simp [osz]; omega
/-- behind the two allocations -/
structure LeakMid (e i : Nat) (A : AH) (last : Int) : Prop where
  wf : A.WF
  words : A.words = 3000
  used : A.used ≤ 8 + 6 * (i + 1)
  has : A.has last
  hang : e ≤ 18 → ∃ m, m ≤ i % e + 2 ∧ Hang A m last
theorem leak_mid {e i : Nat} {A : AH} {last : Int} (h : LeakInv e i A last) (hi : i < 300) :
    LeakMid e i ((A.add 2 [last, last] []).add 6 [A.used] [((i % 2 : Nat) : Int)]) (A.used + 3) := by
  have w1 := WF_add h.wf (leak_ok1 h hi)
  have w2 := WF_add w1 (leak_ok2 h hi)
  have f1 := find_new h.wf 2 [last, last] []
  have f2 := find_new w1 6 [A.used] [((i % 2 : Nat) : Int)]
  have u1 : (A.add 2 [last, last] []).used = A.used + 3 := by show A.used + osz _ _ = _; simp [osz]; omega
  rw [u1] at f2
  have hu := h.wf.u0
  refine ⟨w2, h.words, ?_, ?_, fun he => ?_⟩
  · show (A.add 2 [last, last] []).used + osz _ _ ≤ _
    rw [u1]; have := h.used; simp [osz]; omega
  · unfold AH.has; rw [f2]; simp
  · obtain ⟨m, hm, hh⟩ := h.hang he
    exact ⟨m + 1, by omega, .sel (by omega) hu f2 (find_mono f1) (by rcases (by omega : i % 2 = 0 ∨ i % 2 = 1) with q | q <;> rw [q] <;> simp) ((hh.add _ _ _).add _ _ _)⟩
/-- no collection this round -/
theorem leak_next {e i : Nat} {A : AH} {last : Int} (h : LeakMid e i A last) (he : 0 < e) (hi : i % e ≠ e - 1) : LeakInv e (i + 1) A last := by
  refine ⟨h.wf, h.words, by have := h.used; omega, h.has, fun h18 => ?_⟩
  obtain ⟨m, hm, hh⟩ := h.hang h18
  refine ⟨m, ?_, hh⟩
  have h1 := Nat.mod_lt i he
  have h2 : (i + 1) % e = i % e + 1 := by
    rw [Nat.add_mod, Nat.mod_eq_of_lt (show i % e + 1 % e < e by have : 1 % e ≤ 1 := Nat.mod_le 1 e; omega)]
    rw [Nat.mod_eq_of_lt (show 1 < e by omega)]
  omega
/-- a collection -/
theorem leak_coll {e i : Nat} {A : AH} {last : Int} (h : LeakMid e i A last) (he : 0 < e) (hi : i % e = e - 1) :
    A.told 20 [last] = [0] ∧ LeakInv e (i + 1) (A.gcd 20 (A.final 20 [last])) 0 ∧ (e ≤ 18 → (A.gcd 20 (A.final 20 [last])).used = 2) := by
  have hr : ∀ k ∈ [last], A.has k := by intro k hk; rw [List.mem_singleton] at hk; subst hk; exact h.has
  obtain ⟨h1, h2, h3⟩ := told_one h.wf 20 h.has
  have hwf := WF_gcd h.wf 20 hr
  obtain ⟨fi, fa, fc, m, hm⟩ := final_inv h.wf 20 hr
  have hf := gcd_find (d := 20) h.wf fi fa h3
  have hu := gcd_used (A := A) (d := 20) fi
  have hle := (fi.le h.wf).2.1
  have key : e ≤ 18 → (A.gcd 20 (A.final 20 [last])).find 0 = some ⟨7, [], []⟩ ∧ (A.gcd 20 (A.final 20 [last])).used = 2 := by
    intro h18
    obtain ⟨m, hm, hh⟩ := h.hang h18
    obtain ⟨z, hz, hzf⟩ := hh.short 20 (by omega)
    have hp0 : A.ptrs z = [] := by simp [AH.ptrs, hzf]
    have hn0 : A.nums z = [] := by simp [AH.nums, hzf]
    have ht0 : A.tag z = 7 := by simp [AH.tag, hzf]
    refine ⟨?_, ?_⟩
    · simp only [hz, ht0, hn0, CS.row, hp0, List.map_nil] at hf
      exact hf
    · rw [hu]
      have ea : CS.all A 20 ⟨[], 0⟩ [last] = ([0], ⟨[(z, 0)], 2⟩) := by
        simp [CS.all, CS.stepAll, CS.copied, CS.put, lookI, hz, hp0, hn0, osz]; rfl
      unfold AH.final
      rw [ea]
      have hl : 1 ≤ A.objs.length := by
        cases ho : A.objs with
        | nil => simp [AH.find, ho, lookO] at hzf
        | cons a r => simp
      obtain ⟨n, hn⟩ : ∃ n, A.objs.length = n + 1 := ⟨A.objs.length - 1, by omega⟩
      rw [hn]
      simp [CS.run, CS.all, hp0]
  refine ⟨h1, ⟨hwf, h.words, ?_, ?_, fun h18 => ⟨0, Nat.zero_le _, .nil (by decide) (key h18).1⟩⟩, fun h18 => (key h18).2⟩
  · rw [hu]; have := h.used; omega
  · unfold AH.has; rw [hf]; simp
end Go.Proofs.Ytjhdnbediipibaa
