import Derived.Test.YtjhdnbediipibaaA4
/-! Ptrs, Nums, Follow, New. -/
namespace Go.Proofs.Ytjhdnbediipibaa
open Go.RowKit

theorem cells_ob {w : World} {ob : Nat} {t : Int} {pv nv : Value} (h : w.heap[ob]? = some (.cells #[Kv t, pv, nv] 68 (0, 0))) :
    w.cell? ⟨ob, 0, none⟩ = some (Kv t) ∧ w.cell? ⟨ob, 1, none⟩ = some pv ∧ w.cell? ⟨ob, 2, none⟩ = some nv ∧
      w.frozen? ⟨ob, 0, none⟩ = false ∧ w.frozen? ⟨ob, 1, none⟩ = false ∧ w.frozen? ⟨ob, 2, none⟩ = false := by
  refine ⟨?_, ?_, ?_, frozen_of_get h _, frozen_of_get h _, frozen_of_get h _⟩ <;> rw [cell_of_get h] <;> rfl

/-- what a reader of a row hands back: a row of its own -/
def NewRow (w : World) (l : List Int) (e : Ending) (w' : World) : Prop :=
  ∃ v, e = .returned v ∧ Ow w' v l ∧ Grew w w' ∧ (∀ g, v.ownBlock = some g → w.heap.size ≤ g)

theorem ptrs_any {w : World} {hb : Nat} {A : AH} {fp : List Nat} (h : PH w hb A fp) (k : Int) (hl : (A.ptrs k).length ≤ 17592186044416) :
    Calls Try.prog 31 #[.pointer (some ⟨hb, 0, none⟩), .int .i64 k] w (NewRow w (A.ptrs k)) := by
  cases hf : A.find k with
  | none =>
    have hg := get_none h k hf
    have ht : A.ptrs k = [] := by simp [AH.ptrs, hf]
    rw [ht]; clear h hf ht hl
    go_enter Try.func31, Try.ntmps31
    go_wp2_with (go_at_call 48; refine hg.mono ?_; rintro e w' ⟨rfl, rfl⟩)
    go_ret
    exact ⟨_, rfl, Ow.nil _, Fr.refl _ _, by simp [Value.ownBlock]⟩
  | some o =>
    obtain ⟨ob, pv, nv, hg, ho, hp, hn⟩ := get_some h k hf
    have ht : A.ptrs k = o.ptrs := by simp [AH.ptrs, hf]
    obtain ⟨_, hc, _⟩ := cells_ob ho
    rw [ht] at hl ⊢
    obtain ⟨v', w1, hr, h2⟩ := app_nil hp hl 22
    have HR := hid hr
    have H := hid h2
    clear h hf ht hr h2 ho hp hn hl
    go_enter Try.func31, Try.ntmps31
    go_wp2_with (first | (go_at_call 48; refine hg.mono ?_; rintro e w' ⟨rfl, rfl⟩) | (at_builtin; refine wpList_app rfl rfl rfl rfl HR.out ?_))
    go_ret
    exact ⟨v', rfl, H.out⟩

theorem nums_any {w : World} {hb : Nat} {A : AH} {fp : List Nat} (h : PH w hb A fp) (k : Int) (hl : (A.nums k).length ≤ 17592186044416) :
    Calls Try.prog 29 #[.pointer (some ⟨hb, 0, none⟩), .int .i64 k] w (NewRow w (A.nums k)) := by
  cases hf : A.find k with
  | none =>
    have hg := get_none h k hf
    have ht : A.nums k = [] := by simp [AH.nums, hf]
    rw [ht]; clear h hf ht hl
    go_enter Try.func29, Try.ntmps29
    go_wp2_with (go_at_call 48; refine hg.mono ?_; rintro e w' ⟨rfl, rfl⟩)
    go_ret
    exact ⟨_, rfl, Ow.nil _, Fr.refl _ _, by simp [Value.ownBlock]⟩
  | some o =>
    obtain ⟨ob, pv, nv, hg, ho, hp, hn⟩ := get_some h k hf
    have ht : A.nums k = o.nums := by simp [AH.nums, hf]
    obtain ⟨_, _, hc, _⟩ := cells_ob ho
    rw [ht] at hl ⊢
    obtain ⟨v', w1, hr, h2⟩ := app_nil hn hl 22
    have HR := hid hr
    have H := hid h2
    clear h hf ht hr h2 ho hp hn hl
    go_enter Try.func29, Try.ntmps29
    go_wp2_with (first | (go_at_call 48; refine hg.mono ?_; rintro e w' ⟨rfl, rfl⟩) | (at_builtin; refine wpList_app rfl rfl rfl rfl HR.out ?_))
    go_ret
    exact ⟨v', rfl, H.out⟩

/-- Follow, by rounds -/
def AH.followN (A : AH) : Nat → Int → Int
  | 0, _ => -1
  | n + 1, k => match A.find k with
    | none => -1
    | some o => if o.tag = 5 then A.followN n (o.ptrs.getD 0 0) else k
def AH.follow (A : AH) (k : Int) : Int := A.followN (A.objs.length + 1) k

/-- what every object of a heap is -/
def AH.Shaped (A : AH) : Prop := ∀ p ∈ A.objs, ShapeOk p.2.tag p.2.ptrs p.2.nums

theorem lookO_mem {k : Int} {o : HObj} : ∀ {l : List (Int × HObj)}, lookO k l = some o → (k, o) ∈ l
  | [], h => by simp [lookO] at h
  | p :: r, h => by
    unfold lookO at h
    split at h
    · rename_i hk; cases h; subst hk; simp
    · exact List.mem_cons_of_mem _ (lookO_mem h)

theorem AH.Shaped.find {A : AH} (h : A.Shaped) {k : Int} {o : HObj} (hf : A.find k = some o) : ShapeOk o.tag o.ptrs o.nums := h _ (lookO_mem hf)

theorem AH.Shaped.ptrs_le {A : AH} (h : A.Shaped) (k : Int) : (A.ptrs k).length ≤ 60 := by
  unfold AH.ptrs
  cases hf : A.find k with
  | none => simp
  | some o => exact (h.find hf).2.2.1
theorem AH.Shaped.nums_le {A : AH} (h : A.Shaped) (k : Int) : (A.nums k).length ≤ 60 := by
  unfold AH.nums
  cases hf : A.find k with
  | none => simp
  | some o => exact (h.find hf).2.2.2.1

theorem new_any (a : Int) (w : World) :
    Calls Try.prog 22 #[.int .i64 a] w fun e w' => ∃ hb fp, e = .returned (.pointer (some ⟨hb, 0, none⟩)) ∧ PH w' hb ⟨[], 0, a⟩ fp ∧ Grew w w' ∧ (∀ b ∈ fp, w.heap.size ≤ b) := by
  have hmm := @run_makeMap Try.prog
  have hph : PH ((w.alloc (.map #[] 0)).alloc (.cells #[.map (some w.heap.size), .int .i64 0, .int .i64 a] 37)) (w.heap.size + 1) ⟨[], 0, a⟩ [w.heap.size + 1, w.heap.size] := by
    refine ⟨w.heap.size, #[], 0, [], ?_, ?_, ⟨rfl, by simp, by simp⟩, rfl, by simp, rfl, by simp⟩
    · have := heap_alloc_new (w.alloc (.map #[] 0)) (.cells #[.map (some w.heap.size), .int .i64 0, .int .i64 a] 37)
      simpa using this
    · rw [Below.heap_alloc _ _ _ (by simp)]
      exact heap_alloc_new w _
  have H := hid (And.intro hph (((Fr.refl _ w).alloc _).alloc _ : Grew w ((w.alloc (.map #[] 0)).alloc (.cells #[.map (some w.heap.size), .int .i64 0, .int .i64 a] 37))))
  clear hph
  go_enter Try.func22, Try.ntmps22
  go_wp2
  go_ret
  exact ⟨_, _, rfl, H.out.1, H.out.2, by simp⟩

set_option maxRecDepth 100000 in
theorem follow_any {w : World} {hb : Nat} {A : AH} {fp : List Nat} (h : PH w hb A fp) (hS : A.Shaped) (hlen : A.objs.length ≤ 1000000) (k : Int) :
    Calls Try.prog 34 #[.pointer (some ⟨hb, 0, none⟩), .int .i64 k] w fun e w' => e = .returned (Kv (A.follow k)) ∧ w = w' := by
  obtain ⟨mb, c0, _, _, es, clock, hm, hes⟩ := h.cells
  have hlm := run_lenMap Try.prog hm Try.u33 3
  have hfol : A.follow k = A.followN (es.size + 1) k := by unfold AH.follow; rw [hes]
  rw [← hes] at hlen
  clear hes
  rw [hfol]
  have Hf := hid h
  have HS := hid hS
  clear h hS hfol
  go_enter Try.func34, Try.ntmps34
  go_wp2
  go_loop [1, 5, 6] (fun a n _ => ∃ (i : Nat) (q : Int), i ≤ es.size + 1 ∧ n = .int .i64 i ∧ a = .int .i64 q ∧ A.followN (es.size + 1 - i) q = A.followN (es.size + 1) k) (fun _ n _ => es.size + 1 - (intOf n).toNat)
  case atStart => exact ⟨0, k, by omega, rfl, rfl, rfl⟩
  case round =>
    obtain ⟨i, q, hi, rfl, rfl, hq⟩ := hrel
    by_cases hle : i ≤ es.size
    · cases hf : A.find q with
      | none =>
        have hg := get_none Hf.out q hf
        have e1 : A.followN (es.size + 1) k = -1 := by
          rw [← hq, show es.size + 1 - i = (es.size - i) + 1 from by omega]; simp [AH.followN, hf]
        have HE := hid e1
        clear e1 hq hf
        go_wp2_with (go_at_call 48; refine hg.mono ?_; rintro e w' ⟨rfl, rfl⟩)
        go_ret
        exact ⟨by rw [HE.out]; rfl, rfl⟩
      | some o =>
        obtain ⟨ob, pv, nv, hg, ho, hp, hn⟩ := get_some Hf.out q hf
        obtain ⟨ct, cp, _⟩ := cells_ob ho
        by_cases h5 : o.tag = 5
        · have hsh := (HS.out.find hf).2.2.2.2.2.1 h5
          obtain ⟨z, hz⟩ : ∃ z, o.ptrs = [z] := List.length_eq_one_iff.1 hsh.1
          rw [hz] at hp
          obtain ⟨g, cap, rfl, hc1, hc2, _, hcell⟩ := hp.at (by simp)
          have hc0 : w.cell? ⟨g, 0, none⟩ = some (Kv z) := (hcell 0 (by simp)).1
          have e1 : A.followN (es.size + 1) k = A.followN (es.size + 1 - (i + 1)) z := by
            rw [← hq, show es.size + 1 - i = (es.size - i) + 1 from by omega]
            simp only [AH.followN, hf, h5, if_true, hz]
            rw [show es.size + 1 - (i + 1) = es.size - i from by omega]
            rfl
          rw [h5] at ct
          have HE := hid e1
          clear e1 hq hf ho hcell hsh hn hp h5 hz
          go_wp2_with (go_at_call 48; refine hg.mono ?_; rintro e w' ⟨rfl, rfl⟩)
          go_round
          case rel => exact ⟨i + 1, z, by omega, by go_num, rfl, HE.out.symm⟩
          case measure => simp [intOf]; omega
        · have e1 : A.followN (es.size + 1) k = q := by
            rw [← hq, show es.size + 1 - i = (es.size - i) + 1 from by omega]; simp [AH.followN, hf, h5]
          have hne : (o.tag == 5) = false := by simpa using h5
          have HE := hid e1
          clear e1 hq hf ho h5 hp hn
          go_wp2_with (go_at_call 48; refine hg.mono ?_; rintro e w' ⟨rfl, rfl⟩)
          go_ret
          exact ⟨by rw [HE.out]; rfl, rfl⟩
    · have e1 : A.followN (es.size + 1) k = -1 := by
        rw [← hq, show es.size + 1 - i = 0 from by omega]; rfl
      have HE := hid e1
      clear e1 hq
      go_wp2
      go_ret
      exact ⟨by rw [HE.out]; rfl, rfl⟩
end Go.Proofs.Ytjhdnbediipibaa
