import Derived.Test.YtjhdnbediipibaaA7
import Derived.Test.YtjhdnbediipibaaR
import Derived.Deep.Light
/-! gc: size, short. -/
namespace Go.Proofs.Ytjhdnbediipibaa
open Go.RowKit

theorem size_any (p n : Nat) (w : World) (hp : p ≤ 1000) (hn : n ≤ 1000) :
    Calls Try.prog 72 #[.int .i64 p, .int .i64 n] w fun e w' => e = .returned (Kv (max (1 + (p : Int) + n) 2)) ∧ w = w' := by
  have hmax : ∀ w0 : World, (Builtin.max_ #[3, 3] 3 #[.int .i64 (1 + ↑p + ↑n), .int .i64 2]).run Try.prog w0 = .ok (.int .i64 (max (1 + (p : Int) + n) 2)) w0 := by
    intro w0
    have hmd : max (1 + (p : Int) + n) 2 = if 2 > 1 + (p : Int) + n then 2 else 1 + (p : Int) + n := by
      rw [Int.max_def]; split <;> split <;> omega
    simp [Builtin.max_, Builtin.max2, hmd]
  go_enter Try.func72, Try.ntmps72
  go_wp2
  go_ret
  exact ⟨rfl, rfl⟩

/-- an address without what leads on -/
def AH.base (A : AH) (k : Int) : Int := if 0 ≤ A.follow k then A.follow k else k
/-- where an address leads, by so many selectors in a row -/
def AH.short (A : AH) : Nat → Int → Int
  | 0, k => A.base k
  | d + 1, k =>
    if A.tag (A.base k) = 6 then
      let t := A.short d ((A.ptrs (A.base k)).getD 0 0)
      if A.tag t = 2 then A.short d ((A.ptrs t).getD ((A.nums (A.base k)).getD 0 0).toNat 0) else A.base k
    else A.base k

/-- a row of one, just made -/
def NewOne (w : World) (z : Int) (e : Ending) (w' : World) : Prop :=
  ∃ g c, e = .returned (.slice (some ⟨g, 0, none⟩) 1 c) ∧ w'.cell? ⟨g, 0, none⟩ = some (Kv z) ∧ 1 ≤ c ∧ Grew w w'
/-- a row of two, just made -/
def NewTwo (w : World) (y z : Int) (e : Ending) (w' : World) : Prop :=
  ∃ g c, e = .returned (.slice (some ⟨g, 0, none⟩) 2 c) ∧ w'.cell? ⟨g, 0, none⟩ = some (Kv y) ∧ w'.cell? ⟨g, 1, none⟩ = some (Kv z) ∧ 2 ≤ c ∧ Grew w w'

theorem NewRow.one {w : World} {z : Int} {e : Ending} {w' : World} (h : NewRow w [z] e w') : NewOne w z e w' := by
  obtain ⟨v, rfl, ho, hg, hf⟩ := h
  obtain ⟨g, c, rfl, hc, _, _, hcell⟩ := ho.at (by simp)
  exact ⟨g, c, rfl, (hcell 0 (by simp)).1, by simpa using hc, hg⟩
theorem NewRow.two {w : World} {y z : Int} {e : Ending} {w' : World} (h : NewRow w [y, z] e w') : NewTwo w y z e w' := by
  obtain ⟨v, rfl, ho, hg, hf⟩ := h
  obtain ⟨g, c, rfl, hc, _, _, hcell⟩ := ho.at (by simp)
  exact ⟨g, c, rfl, (hcell 0 (by simp)).1, (hcell 1 (by simp)).1, by simpa using hc, hg⟩

/-- a row of one -/
def FRow1 (p : Int) (v : Value) (w : World) : Prop := ∃ g c, v = .slice (some ⟨g, 0, none⟩) 1 c ∧ 1 ≤ c ∧ w.cell? ⟨g, 0, none⟩ = some (Kv p)
/-- a row of two -/
def FRow2 (y z : Int) (v : Value) (w : World) : Prop := ∃ g c, v = .slice (some ⟨g, 0, none⟩) 2 c ∧ 2 ≤ c ∧ w.cell? ⟨g, 0, none⟩ = some (Kv y) ∧ w.cell? ⟨g, 1, none⟩ = some (Kv z)
/-- the address of a number -/
def FAt (p : Int) (v : Value) (w : World) : Prop := ∃ g i, v = .pointer (some ⟨g, i, none⟩) ∧ w.cell? ⟨g, i, none⟩ = some (Kv p)
theorem FRow1.stays (p : Int) : ∀ v w w', Grew w w' → FRow1 p v w → FRow1 p v w' := fun _ _ _ hs ⟨g, c, h1, h2, h3⟩ => ⟨g, c, h1, h2, hs.cell h3 (fun f => f)⟩
theorem FRow2.stays (y z : Int) : ∀ v w w', Grew w w' → FRow2 y z v w → FRow2 y z v w' := fun _ _ _ hs ⟨g, c, h1, h2, h3, h4⟩ => ⟨g, c, h1, h2, hs.cell h3 (fun f => f), hs.cell h4 (fun f => f)⟩
theorem FAt.stays (p : Int) : ∀ v w w', Grew w w' → FAt p v w → FAt p v w' := fun _ _ _ hs ⟨g, i, h1, h2⟩ => ⟨g, i, h1, hs.cell h2 (fun f => f)⟩

def GivesK (w : World) (z : Int) (e : Ending) (w' : World) : Prop := e = .returned (Kv z) ∧ Grew w w'


theorem AH.Shaped.sel {A : AH} (hS : A.Shaped) {k : Int} (h : A.tag k = 6) : ∃ p n, A.ptrs k = [p] ∧ A.nums k = [n] ∧ (n = 0 ∨ n = 1) := by
  unfold AH.tag at h
  unfold AH.ptrs AH.nums
  cases hf : A.find k with
  | none => rw [hf] at h; simp at h
  | some o =>
    rw [hf] at h
    simp only [Option.map_some, Option.getD_some] at h ⊢
    obtain ⟨h1, h2, h3⟩ := (hS.find hf).2.2.2.2.2.2 h
    obtain ⟨p, hp⟩ := List.length_eq_one_iff.1 h1
    rcases h3 with h3 | h3
    · exact ⟨p, 0, hp, h3, .inl rfl⟩
    · exact ⟨p, 1, hp, h3, .inr rfl⟩
theorem AH.Shaped.con {A : AH} (hS : A.Shaped) {k : Int} (h : A.tag k = 2) : ∃ y z, A.ptrs k = [y, z] ∧ A.nums k = [] := by
  unfold AH.tag at h
  unfold AH.ptrs AH.nums
  cases hf : A.find k with
  | none => rw [hf] at h; simp at h
  | some o =>
    rw [hf] at h
    simp only [Option.map_some, Option.getD_some] at h ⊢
    obtain ⟨h1, h2⟩ := (hS.find hf).2.2.2.2.1 h
    match o.ptrs, h1 with
    | [y, z], _ => exact ⟨y, z, rfl, List.eq_nil_of_length_eq_zero h2⟩

set_option maxHeartbeats 1000000 in
set_option maxRecDepth 100000 in
/-- it stays -/
theorem short_stay {hb : Nat} {A : AH} {fp : List Nat} (hS : A.Shaped) (hlen : A.objs.length ≤ 1000000) (d : Int) (k : Int) (w : World) (h : PH w hb A fp)
    (hst : A.tag (A.base k) ≠ 6 ∨ d ≤ 0) :
    Calls Try.prog 71 #[.agg #[.pointer (some ⟨hb, 0, none⟩)], .int .i64 k, .int .i64 d] w (GivesK w (A.base k)) := by
  have hfo := follow_any (h.grew (Grew.alloc w (.cells #[.pointer (some ⟨hb, 0, none⟩)] 71))) hS hlen k
  have htg := fun k' => tag_any (h.grew (Grew.alloc w (.cells #[.pointer (some ⟨hb, 0, none⟩)] 71))) k'
  have HT := hid htg
  clear h htg
  by_cases ha : 0 ≤ A.follow k
  · have hs : A.base k = A.follow k := by simp [AH.base, ha]
    rw [hs] at hst ⊢
    clear hs
    generalize A.follow k = a at *
    by_cases h6 : A.tag a = 6
    · have hd : d ≤ 0 := hst.resolve_left (fun q => q h6)
      have e6 : (A.tag a != 6) = false := by simpa using h6
      clear h6 hst
      go_enter Try.func71, Try.ntmps71
      go_wp2_with (first | (go_at_call 34; refine hfo.mono ?_; rintro e w' ⟨rfl, rfl⟩) | (go_at_call 26; refine (HT.out _).mono ?_; rintro e w' ⟨rfl, rfl⟩))
      go_ret
      exact ⟨rfl, Grew.alloc _ _⟩
    · have e6 : (A.tag a != 6) = true := by simpa using h6
      clear h6 hst
      go_enter Try.func71, Try.ntmps71
      go_wp2_with (first | (go_at_call 34; refine hfo.mono ?_; rintro e w' ⟨rfl, rfl⟩) | (go_at_call 26; refine (HT.out _).mono ?_; rintro e w' ⟨rfl, rfl⟩))
      go_ret
      exact ⟨rfl, Grew.alloc _ _⟩
  · have hs : A.base k = k := by simp [AH.base, ha]
    rw [hs] at hst ⊢
    clear hs
    generalize A.follow k = a at *
    by_cases h6 : A.tag k = 6
    · have hd : d ≤ 0 := hst.resolve_left (fun q => q h6)
      have e6 : (A.tag k != 6) = false := by simpa using h6
      clear h6 hst
      go_enter Try.func71, Try.ntmps71
      go_wp2_with (first | (go_at_call 34; refine hfo.mono ?_; rintro e w' ⟨rfl, rfl⟩) | (go_at_call 26; refine (HT.out _).mono ?_; rintro e w' ⟨rfl, rfl⟩))
      go_ret
      exact ⟨rfl, Grew.alloc _ _⟩
    · have e6 : (A.tag k != 6) = true := by simpa using h6
      clear h6 hst
      go_enter Try.func71, Try.ntmps71
      go_wp2_with (first | (go_at_call 34; refine hfo.mono ?_; rintro e w' ⟨rfl, rfl⟩) | (go_at_call 26; refine (HT.out _).mono ?_; rintro e w' ⟨rfl, rfl⟩))
      go_ret
      exact ⟨rfl, Grew.alloc _ _⟩

set_option maxHeartbeats 1000000 in
set_option maxRecDepth 100000 in
/-- a selector is followed: the walk, with what it meets as letters -/
theorem short_go {hb : Nat} (d : Int) (k a0 a p n t r : Int) (w : World) (hd : 0 < d) (hd2 : d ≤ 1000) (hak : (0 ≤ a0 ∧ a = a0) ∨ (¬ 0 ≤ a0 ∧ a = k)) (hn : n = 0 ∨ n = 1)
    (hfo : Calls Try.prog 34 #[.pointer (some ⟨hb, 0, none⟩), .int .i64 k] (w.alloc (.cells #[.pointer (some ⟨hb, 0, none⟩)] 71)) fun e w' => e = .returned (Kv a0) ∧ (w.alloc (.cells #[.pointer (some ⟨hb, 0, none⟩)] 71)) = w')
    (HT : Hid (∀ w', Grew w w' → Calls Try.prog 26 #[.pointer (some ⟨hb, 0, none⟩), .int .i64 a] w' fun e w'' => e = .returned (Kv 6) ∧ w' = w''))
    (HP : Hid (∀ w', Grew w w' → Calls Try.prog 31 #[.pointer (some ⟨hb, 0, none⟩), .int .i64 a] w' (NewOne w' p)))
    (HN : Hid (∀ w', Grew w w' → Calls Try.prog 29 #[.pointer (some ⟨hb, 0, none⟩), .int .i64 a] w' (NewOne w' n)))
    (HR : Hid (∀ w', Grew w w' → Calls Try.prog 71 #[.agg #[.pointer (some ⟨hb, 0, none⟩)], .int .i64 p, .int .i64 (d - 1)] w' (GivesK w' t)))
    (tt : Int) (HT2 : Hid (∀ w', Grew w w' → Calls Try.prog 26 #[.pointer (some ⟨hb, 0, none⟩), .int .i64 t] w' fun e w'' => e = .returned (Kv tt) ∧ w' = w''))
    (hcase : (tt ≠ 2 ∧ r = a) ∨ (tt = 2 ∧ ∃ y z, Hid (∀ w', Grew w w' → Calls Try.prog 31 #[.pointer (some ⟨hb, 0, none⟩), .int .i64 t] w' (NewTwo w' y z)) ∧
      Hid (∀ w', Grew w w' → Calls Try.prog 71 #[.agg #[.pointer (some ⟨hb, 0, none⟩)], .int .i64 (if n = 0 then y else z), .int .i64 (d - 1)] w' (GivesK w' r)))) :
    Calls Try.prog 71 #[.agg #[.pointer (some ⟨hb, 0, none⟩)], .int .i64 k, .int .i64 d] w (GivesK w r) := by
  have hb0 : Grew w (w.alloc (.cells #[.pointer (some ⟨hb, 0, none⟩)] 71)) := Grew.alloc _ _
  have HB := hid hb0
  have hnd : ¬ d ≤ 0 := by omega
  have hcb : (w.alloc (.cells #[.pointer (some ⟨hb, 0, none⟩)] 71)).cell? ⟨w.heap.size, 0, none⟩ = some (.pointer (some ⟨hb, 0, none⟩)) := by
    rw [cell_of_get (heap_alloc_new w _)]; rfl
  clear hb0
  have hw1 : IntKind.i64.wrap (d - 1) = d - 1 := IntWalk.i64_in _ (by omega)
  rcases hak with ⟨ha, rfl⟩ | ⟨ha, rfl⟩
  · rcases hcase with ⟨ht, rfl⟩ | ⟨rfl, y, z, HP2, HR2⟩
    · have e6 : (tt != 2) = true := by simpa using ht
      clear ht
      go_enter Try.func71, Try.ntmps71
      go_wp2_with (first | (go_at_call 34; refine hfo.mono ?_; rintro e w' ⟨rfl, rfl⟩) | (go_at_call 26; refine (HT.out _ HB.out).mono ?_; rintro e w' ⟨rfl, rfl⟩))
      refine wp_region_facts 11 Grew [(26, Ex (.agg #[.pointer (some ⟨hb, 0, none⟩)])), (27, Ex (.pointer (some ⟨w.heap.size, 0, none⟩))), (28, Ex (.pointer (some ⟨hb, 0, none⟩))), (29, Ex (Kv r)), (30, FRow1 p), (31, FAt p), (32, Ex (Kv p)), (33, Ex (Kv d)), (34, Ex (Kv (d - 1))), (35, Ex (Kv t)), (8, Ex (Kv t))] (by kernel_rfl) (by kernel_rfl) (by rfl) (by rfl)
        (fun a => Fr.refl _ a) (fun a b c h k => h.trans k (fun _ _ f => f)) (Fr.refl _ _).drew
        (Stays.all ⟨Ex.stays _, Ex.stays _, Ex.stays _, Ex.stays _, FRow1.stays _, FAt.stays _, Ex.stays _, Ex.stays _, Ex.stays _, Ex.stays _, Ex.stays _, trivial⟩) ?_ ?_
      · go_light
        refine OpGoals.cons ?_ (OpGoals.cons ?_ (OpGoals.cons ?_ (OpGoals.cons ?_ (OpGoals.cons ?_ (OpGoals.cons ?_ (OpGoals.cons ?_ (OpGoals.cons ?_ (OpGoals.cons ?_ (OpGoals.cons ?_ (OpGoals.cons ?_ OpGoals.none))))))))))
        all_goals (intro a' w' hS hR; simp [Rd, Op.operands, Call.operands, Fk, Ex] at hR)
        all_goals (show Yields _ _ _ _ _)
        all_goals (have hc := hS.cell hcb (fun f => f))
        all_goals (have hgw : Grew w w' := HB.out.trans hS (fun _ _ f => f))
        all_goals try (simp [Yields, execOp, Act.eval, hR, hc, hw1, go_sem, Fk, Ex, Fr.refl]; done)
        · simp [Yields, Act.eval, hR, go_sem, Fk]
          refine (HP.out _ hgw).mono ?_
          rintro e w2 ⟨g, c, rfl, h1, h2, h3⟩
          exact ⟨_, rfl, ⟨g, c, rfl, h2, h1⟩, h3⟩
        · obtain ⟨g, c, h1, h2, h3⟩ := hR
          have h0 : 0 < c := h2
          simp [Yields, execOp, Act.eval, h1, go_sem, Fk, Fr.refl]
          exact ⟨g, 0, rfl, h3⟩
        · obtain ⟨g, i, h1, h2⟩ := hR
          simp [Yields, execOp, Act.eval, h1, h2, go_sem, Fk, Ex, Fr.refl]
        · simp [Yields, Act.eval, hR, go_sem, Fk, Ex]
          refine (HR.out _ hgw).mono ?_
          rintro e w2 ⟨rfl, h3⟩
          exact ⟨_, rfl, rfl, h3⟩
      · intro w' hS
        rintro _ rfl _ rfl _ rfl _ rfl v30 _ v31 _ _ rfl _ rfl _ rfl _ rfl _ rfl
        refine Then.nil ?_
        replace hcb := hS.cell hcb (fun f => f)
        have hgw : Grew w w' := HB.out.trans hS (fun _ _ f => f)
        have HG := hid hgw
        clear hS hgw
        go_wp2_with (go_at_call 26; refine (HT2.out _ HG.out).mono ?_; rintro e w'' ⟨rfl, rfl⟩)
        go_ret
        exact ⟨rfl, HG.out⟩
    · go_enter Try.func71, Try.ntmps71
      go_wp2_with (first | (go_at_call 34; refine hfo.mono ?_; rintro e w' ⟨rfl, rfl⟩) | (go_at_call 26; refine (HT.out _ HB.out).mono ?_; rintro e w' ⟨rfl, rfl⟩))
      refine wp_region_facts 11 Grew [(26, Ex (.agg #[.pointer (some ⟨hb, 0, none⟩)])), (27, Ex (.pointer (some ⟨w.heap.size, 0, none⟩))), (28, Ex (.pointer (some ⟨hb, 0, none⟩))), (29, Ex (Kv a)), (30, FRow1 p), (31, FAt p), (32, Ex (Kv p)), (33, Ex (Kv d)), (34, Ex (Kv (d - 1))), (35, Ex (Kv t)), (8, Ex (Kv t))] (by kernel_rfl) (by kernel_rfl) (by rfl) (by rfl)
        (fun a => Fr.refl _ a) (fun a b c h k => h.trans k (fun _ _ f => f)) (Fr.refl _ _).drew
        (Stays.all ⟨Ex.stays _, Ex.stays _, Ex.stays _, Ex.stays _, FRow1.stays _, FAt.stays _, Ex.stays _, Ex.stays _, Ex.stays _, Ex.stays _, Ex.stays _, trivial⟩) ?_ ?_
      · go_light
        refine OpGoals.cons ?_ (OpGoals.cons ?_ (OpGoals.cons ?_ (OpGoals.cons ?_ (OpGoals.cons ?_ (OpGoals.cons ?_ (OpGoals.cons ?_ (OpGoals.cons ?_ (OpGoals.cons ?_ (OpGoals.cons ?_ (OpGoals.cons ?_ OpGoals.none))))))))))
        all_goals (intro a' w' hS hR; simp [Rd, Op.operands, Call.operands, Fk, Ex] at hR)
        all_goals (show Yields _ _ _ _ _)
        all_goals (have hc := hS.cell hcb (fun f => f))
        all_goals (have hgw : Grew w w' := HB.out.trans hS (fun _ _ f => f))
        all_goals try (simp [Yields, execOp, Act.eval, hR, hc, hw1, go_sem, Fk, Ex, Fr.refl]; done)
        · simp [Yields, Act.eval, hR, go_sem, Fk]
          refine (HP.out _ hgw).mono ?_
          rintro e w2 ⟨g, c, rfl, h1, h2, h3⟩
          exact ⟨_, rfl, ⟨g, c, rfl, h2, h1⟩, h3⟩
        · obtain ⟨g, c, h1, h2, h3⟩ := hR
          have h0 : 0 < c := h2
          simp [Yields, execOp, Act.eval, h1, go_sem, Fk, Fr.refl]
          exact ⟨g, 0, rfl, h3⟩
        · obtain ⟨g, i, h1, h2⟩ := hR
          simp [Yields, execOp, Act.eval, h1, h2, go_sem, Fk, Ex, Fr.refl]
        · simp [Yields, Act.eval, hR, go_sem, Fk, Ex]
          refine (HR.out _ hgw).mono ?_
          rintro e w2 ⟨rfl, h3⟩
          exact ⟨_, rfl, rfl, h3⟩
      · intro w' hS
        rintro _ rfl _ rfl _ rfl _ rfl v30 _ v31 _ _ rfl _ rfl _ rfl _ rfl _ rfl
        refine Then.nil ?_
        replace hcb := hS.cell hcb (fun f => f)
        have hgw : Grew w w' := HB.out.trans hS (fun _ _ f => f)
        have HG := hid hgw
        clear hS hgw
        go_wp2_with (go_at_call 26; refine (HT2.out _ HG.out).mono ?_; rintro e w'' ⟨rfl, rfl⟩)
        refine wp_region_facts 17 Grew [(42, Ex (.agg #[.pointer (some ⟨hb, 0, none⟩)])), (43, Ex (.pointer (some ⟨w.heap.size, 0, none⟩))), (44, Ex (.pointer (some ⟨hb, 0, none⟩))), (45, Ex (Kv t)), (46, FRow2 y z), (47, Ex (.pointer (some ⟨w.heap.size, 0, none⟩))), (48, Ex (.pointer (some ⟨hb, 0, none⟩))), (49, Ex (Kv a)), (50, FRow1 n), (51, FAt n), (52, Ex (Kv n)), (53, FAt (if n = 0 then y else z)), (54, Ex (Kv (if n = 0 then y else z))), (55, Ex (Kv d)), (56, Ex (Kv (d - 1))), (57, Ex (Kv r)), (6, Ex (Kv r))] (by kernel_rfl) (by kernel_rfl) (by rfl) (by rfl)
          (fun a => Fr.refl _ a) (fun a b c h k => h.trans k (fun _ _ f => f)) (Fr.refl _ _).drew
          (Stays.all ⟨Ex.stays _, Ex.stays _, Ex.stays _, Ex.stays _, FRow2.stays _ _, Ex.stays _, Ex.stays _, Ex.stays _, FRow1.stays _, FAt.stays _, Ex.stays _, FAt.stays _, Ex.stays _, Ex.stays _, Ex.stays _, Ex.stays _, Ex.stays _, trivial⟩) ?_ ?_
        · go_light
          refine OpGoals.cons ?_ (OpGoals.cons ?_ (OpGoals.cons ?_ (OpGoals.cons ?_ (OpGoals.cons ?_ (OpGoals.cons ?_ (OpGoals.cons ?_ (OpGoals.cons ?_ (OpGoals.cons ?_ (OpGoals.cons ?_ (OpGoals.cons ?_ (OpGoals.cons ?_ (OpGoals.cons ?_ (OpGoals.cons ?_ (OpGoals.cons ?_ (OpGoals.cons ?_ (OpGoals.cons ?_ OpGoals.none))))))))))))))))
          all_goals (intro a' w' hS hR; simp [Rd, Op.operands, Call.operands, Fk, Ex] at hR)
          all_goals (show Yields _ _ _ _ _)
          all_goals (have hc := hS.cell hcb (fun f => f))
          all_goals (have hgw : Grew w w' := HG.out.trans hS (fun _ _ f => f))
          all_goals try (simp [Yields, execOp, Act.eval, hR, hc, hw1, go_sem, Fk, Ex, Fr.refl]; done)
          · simp [Yields, Act.eval, hR, go_sem, Fk]
            refine (HP2.out _ hgw).mono ?_
            rintro e w2 ⟨g, c, rfl, h1, h2, h3, h4⟩
            exact ⟨_, rfl, ⟨g, c, rfl, h3, h1, h2⟩, h4⟩
          · simp [Yields, Act.eval, hR, go_sem, Fk]
            refine (HN.out _ hgw).mono ?_
            rintro e w2 ⟨g, c, rfl, h1, h2, h3⟩
            exact ⟨_, rfl, ⟨g, c, rfl, h2, h1⟩, h3⟩
          · obtain ⟨g, c, h1, h2, h3⟩ := hR
            have h0 : 0 < c := h2
            simp [Yields, execOp, Act.eval, h1, go_sem, Fk, Fr.refl]
            exact ⟨g, 0, rfl, h3⟩
          · obtain ⟨g, i, h1, h2⟩ := hR
            simp [Yields, execOp, Act.eval, h1, h2, go_sem, Fk, Ex, Fr.refl]
          · obtain ⟨⟨g, c, h1, h2, h3, h4⟩, h5⟩ := hR
            rcases hn with rfl | rfl
            · have h0 : 0 < c := by omega
              simp [Yields, execOp, Act.eval, h1, h5, go_sem, Fk, Fr.refl]
              exact ⟨g, 0, rfl, h3⟩
            · have h0 : 1 < c := by omega
              simp [Yields, execOp, Act.eval, h1, h5, go_sem, Fk, Fr.refl]
              exact ⟨g, 1, rfl, h4⟩
          · obtain ⟨g, i, h1, h2⟩ := hR
            simp [Yields, execOp, Act.eval, h1, h2, go_sem, Fk, Ex, Fr.refl]
          · simp [Yields, Act.eval, hR, go_sem, Fk, Ex]
            refine (HR2.out _ hgw).mono ?_
            rintro e w2 ⟨rfl, h3⟩
            exact ⟨_, rfl, rfl, h3⟩
        · intro w2 hS
          rintro _ rfl _ rfl _ rfl _ rfl v46 _ _ rfl _ rfl _ rfl v50 _ v51 _ _ rfl v53 _ _ rfl _ rfl _ rfl _ rfl _ rfl
          refine Then.nil ?_
          have hgw : Grew w w2 := HG.out.trans hS (fun _ _ f => f)
          have HG2 := hid hgw
          clear hS hgw
          go_wp2_with fail
          all_goals (go_ret; exact ⟨rfl, HG2.out⟩)
  · rcases hcase with ⟨ht, rfl⟩ | ⟨rfl, y, z, HP2, HR2⟩
    · have e6 : (tt != 2) = true := by simpa using ht
      clear ht
      go_enter Try.func71, Try.ntmps71
      go_wp2_with (first | (go_at_call 34; refine hfo.mono ?_; rintro e w' ⟨rfl, rfl⟩) | (go_at_call 26; refine (HT.out _ HB.out).mono ?_; rintro e w' ⟨rfl, rfl⟩))
      refine wp_region_facts 11 Grew [(26, Ex (.agg #[.pointer (some ⟨hb, 0, none⟩)])), (27, Ex (.pointer (some ⟨w.heap.size, 0, none⟩))), (28, Ex (.pointer (some ⟨hb, 0, none⟩))), (29, Ex (Kv r)), (30, FRow1 p), (31, FAt p), (32, Ex (Kv p)), (33, Ex (Kv d)), (34, Ex (Kv (d - 1))), (35, Ex (Kv t)), (8, Ex (Kv t))] (by kernel_rfl) (by kernel_rfl) (by rfl) (by rfl)
        (fun a => Fr.refl _ a) (fun a b c h k => h.trans k (fun _ _ f => f)) (Fr.refl _ _).drew
        (Stays.all ⟨Ex.stays _, Ex.stays _, Ex.stays _, Ex.stays _, FRow1.stays _, FAt.stays _, Ex.stays _, Ex.stays _, Ex.stays _, Ex.stays _, Ex.stays _, trivial⟩) ?_ ?_
      · go_light
        refine OpGoals.cons ?_ (OpGoals.cons ?_ (OpGoals.cons ?_ (OpGoals.cons ?_ (OpGoals.cons ?_ (OpGoals.cons ?_ (OpGoals.cons ?_ (OpGoals.cons ?_ (OpGoals.cons ?_ (OpGoals.cons ?_ (OpGoals.cons ?_ OpGoals.none))))))))))
        all_goals (intro a' w' hS hR; simp [Rd, Op.operands, Call.operands, Fk, Ex] at hR)
        all_goals (show Yields _ _ _ _ _)
        all_goals (have hc := hS.cell hcb (fun f => f))
        all_goals (have hgw : Grew w w' := HB.out.trans hS (fun _ _ f => f))
        all_goals try (simp [Yields, execOp, Act.eval, hR, hc, hw1, go_sem, Fk, Ex, Fr.refl]; done)
        · simp [Yields, Act.eval, hR, go_sem, Fk]
          refine (HP.out _ hgw).mono ?_
          rintro e w2 ⟨g, c, rfl, h1, h2, h3⟩
          exact ⟨_, rfl, ⟨g, c, rfl, h2, h1⟩, h3⟩
        · obtain ⟨g, c, h1, h2, h3⟩ := hR
          have h0 : 0 < c := h2
          simp [Yields, execOp, Act.eval, h1, go_sem, Fk, Fr.refl]
          exact ⟨g, 0, rfl, h3⟩
        · obtain ⟨g, i, h1, h2⟩ := hR
          simp [Yields, execOp, Act.eval, h1, h2, go_sem, Fk, Ex, Fr.refl]
        · simp [Yields, Act.eval, hR, go_sem, Fk, Ex]
          refine (HR.out _ hgw).mono ?_
          rintro e w2 ⟨rfl, h3⟩
          exact ⟨_, rfl, rfl, h3⟩
      · intro w' hS
        rintro _ rfl _ rfl _ rfl _ rfl v30 _ v31 _ _ rfl _ rfl _ rfl _ rfl _ rfl
        refine Then.nil ?_
        replace hcb := hS.cell hcb (fun f => f)
        have hgw : Grew w w' := HB.out.trans hS (fun _ _ f => f)
        have HG := hid hgw
        clear hS hgw
        go_wp2_with (go_at_call 26; refine (HT2.out _ HG.out).mono ?_; rintro e w'' ⟨rfl, rfl⟩)
        go_ret
        exact ⟨rfl, HG.out⟩
    · go_enter Try.func71, Try.ntmps71
      go_wp2_with (first | (go_at_call 34; refine hfo.mono ?_; rintro e w' ⟨rfl, rfl⟩) | (go_at_call 26; refine (HT.out _ HB.out).mono ?_; rintro e w' ⟨rfl, rfl⟩))
      refine wp_region_facts 11 Grew [(26, Ex (.agg #[.pointer (some ⟨hb, 0, none⟩)])), (27, Ex (.pointer (some ⟨w.heap.size, 0, none⟩))), (28, Ex (.pointer (some ⟨hb, 0, none⟩))), (29, Ex (Kv a)), (30, FRow1 p), (31, FAt p), (32, Ex (Kv p)), (33, Ex (Kv d)), (34, Ex (Kv (d - 1))), (35, Ex (Kv t)), (8, Ex (Kv t))] (by kernel_rfl) (by kernel_rfl) (by rfl) (by rfl)
        (fun a => Fr.refl _ a) (fun a b c h k => h.trans k (fun _ _ f => f)) (Fr.refl _ _).drew
        (Stays.all ⟨Ex.stays _, Ex.stays _, Ex.stays _, Ex.stays _, FRow1.stays _, FAt.stays _, Ex.stays _, Ex.stays _, Ex.stays _, Ex.stays _, Ex.stays _, trivial⟩) ?_ ?_
      · go_light
        refine OpGoals.cons ?_ (OpGoals.cons ?_ (OpGoals.cons ?_ (OpGoals.cons ?_ (OpGoals.cons ?_ (OpGoals.cons ?_ (OpGoals.cons ?_ (OpGoals.cons ?_ (OpGoals.cons ?_ (OpGoals.cons ?_ (OpGoals.cons ?_ OpGoals.none))))))))))
        all_goals (intro a' w' hS hR; simp [Rd, Op.operands, Call.operands, Fk, Ex] at hR)
        all_goals (show Yields _ _ _ _ _)
        all_goals (have hc := hS.cell hcb (fun f => f))
        all_goals (have hgw : Grew w w' := HB.out.trans hS (fun _ _ f => f))
        all_goals try (simp [Yields, execOp, Act.eval, hR, hc, hw1, go_sem, Fk, Ex, Fr.refl]; done)
        · simp [Yields, Act.eval, hR, go_sem, Fk]
          refine (HP.out _ hgw).mono ?_
          rintro e w2 ⟨g, c, rfl, h1, h2, h3⟩
          exact ⟨_, rfl, ⟨g, c, rfl, h2, h1⟩, h3⟩
        · obtain ⟨g, c, h1, h2, h3⟩ := hR
          have h0 : 0 < c := h2
          simp [Yields, execOp, Act.eval, h1, go_sem, Fk, Fr.refl]
          exact ⟨g, 0, rfl, h3⟩
        · obtain ⟨g, i, h1, h2⟩ := hR
          simp [Yields, execOp, Act.eval, h1, h2, go_sem, Fk, Ex, Fr.refl]
        · simp [Yields, Act.eval, hR, go_sem, Fk, Ex]
          refine (HR.out _ hgw).mono ?_
          rintro e w2 ⟨rfl, h3⟩
          exact ⟨_, rfl, rfl, h3⟩
      · intro w' hS
        rintro _ rfl _ rfl _ rfl _ rfl v30 _ v31 _ _ rfl _ rfl _ rfl _ rfl _ rfl
        refine Then.nil ?_
        replace hcb := hS.cell hcb (fun f => f)
        have hgw : Grew w w' := HB.out.trans hS (fun _ _ f => f)
        have HG := hid hgw
        clear hS hgw
        go_wp2_with (go_at_call 26; refine (HT2.out _ HG.out).mono ?_; rintro e w'' ⟨rfl, rfl⟩)
        refine wp_region_facts 17 Grew [(42, Ex (.agg #[.pointer (some ⟨hb, 0, none⟩)])), (43, Ex (.pointer (some ⟨w.heap.size, 0, none⟩))), (44, Ex (.pointer (some ⟨hb, 0, none⟩))), (45, Ex (Kv t)), (46, FRow2 y z), (47, Ex (.pointer (some ⟨w.heap.size, 0, none⟩))), (48, Ex (.pointer (some ⟨hb, 0, none⟩))), (49, Ex (Kv a)), (50, FRow1 n), (51, FAt n), (52, Ex (Kv n)), (53, FAt (if n = 0 then y else z)), (54, Ex (Kv (if n = 0 then y else z))), (55, Ex (Kv d)), (56, Ex (Kv (d - 1))), (57, Ex (Kv r)), (6, Ex (Kv r))] (by kernel_rfl) (by kernel_rfl) (by rfl) (by rfl)
          (fun a => Fr.refl _ a) (fun a b c h k => h.trans k (fun _ _ f => f)) (Fr.refl _ _).drew
          (Stays.all ⟨Ex.stays _, Ex.stays _, Ex.stays _, Ex.stays _, FRow2.stays _ _, Ex.stays _, Ex.stays _, Ex.stays _, FRow1.stays _, FAt.stays _, Ex.stays _, FAt.stays _, Ex.stays _, Ex.stays _, Ex.stays _, Ex.stays _, Ex.stays _, trivial⟩) ?_ ?_
        · go_light
          refine OpGoals.cons ?_ (OpGoals.cons ?_ (OpGoals.cons ?_ (OpGoals.cons ?_ (OpGoals.cons ?_ (OpGoals.cons ?_ (OpGoals.cons ?_ (OpGoals.cons ?_ (OpGoals.cons ?_ (OpGoals.cons ?_ (OpGoals.cons ?_ (OpGoals.cons ?_ (OpGoals.cons ?_ (OpGoals.cons ?_ (OpGoals.cons ?_ (OpGoals.cons ?_ (OpGoals.cons ?_ OpGoals.none))))))))))))))))
          all_goals (intro a' w' hS hR; simp [Rd, Op.operands, Call.operands, Fk, Ex] at hR)
          all_goals (show Yields _ _ _ _ _)
          all_goals (have hc := hS.cell hcb (fun f => f))
          all_goals (have hgw : Grew w w' := HG.out.trans hS (fun _ _ f => f))
          all_goals try (simp [Yields, execOp, Act.eval, hR, hc, hw1, go_sem, Fk, Ex, Fr.refl]; done)
          · simp [Yields, Act.eval, hR, go_sem, Fk]
            refine (HP2.out _ hgw).mono ?_
            rintro e w2 ⟨g, c, rfl, h1, h2, h3, h4⟩
            exact ⟨_, rfl, ⟨g, c, rfl, h3, h1, h2⟩, h4⟩
          · simp [Yields, Act.eval, hR, go_sem, Fk]
            refine (HN.out _ hgw).mono ?_
            rintro e w2 ⟨g, c, rfl, h1, h2, h3⟩
            exact ⟨_, rfl, ⟨g, c, rfl, h2, h1⟩, h3⟩
          · obtain ⟨g, c, h1, h2, h3⟩ := hR
            have h0 : 0 < c := h2
            simp [Yields, execOp, Act.eval, h1, go_sem, Fk, Fr.refl]
            exact ⟨g, 0, rfl, h3⟩
          · obtain ⟨g, i, h1, h2⟩ := hR
            simp [Yields, execOp, Act.eval, h1, h2, go_sem, Fk, Ex, Fr.refl]
          · obtain ⟨⟨g, c, h1, h2, h3, h4⟩, h5⟩ := hR
            rcases hn with rfl | rfl
            · have h0 : 0 < c := by omega
              simp [Yields, execOp, Act.eval, h1, h5, go_sem, Fk, Fr.refl]
              exact ⟨g, 0, rfl, h3⟩
            · have h0 : 1 < c := by omega
              simp [Yields, execOp, Act.eval, h1, h5, go_sem, Fk, Fr.refl]
              exact ⟨g, 1, rfl, h4⟩
          · obtain ⟨g, i, h1, h2⟩ := hR
            simp [Yields, execOp, Act.eval, h1, h2, go_sem, Fk, Ex, Fr.refl]
          · simp [Yields, Act.eval, hR, go_sem, Fk, Ex]
            refine (HR2.out _ hgw).mono ?_
            rintro e w2 ⟨rfl, h3⟩
            exact ⟨_, rfl, rfl, h3⟩
        · intro w2 hS
          rintro _ rfl _ rfl _ rfl _ rfl v46 _ _ rfl _ rfl _ rfl v50 _ v51 _ _ rfl v53 _ _ rfl _ rfl _ rfl _ rfl _ rfl
          refine Then.nil ?_
          have hgw : Grew w w2 := HG.out.trans hS (fun _ _ f => f)
          have HG2 := hid hgw
          clear hS hgw
          go_wp2_with fail
          all_goals (go_ret; exact ⟨rfl, HG2.out⟩)

theorem short_any {hb : Nat} {A : AH} {fp : List Nat} (hS : A.Shaped) (hlen : A.objs.length ≤ 1000000) : ∀ (d : Nat) (_ : d ≤ 1000) (k : Int) (w : World) (_ : PH w hb A fp),
    Calls Try.prog 71 #[.agg #[.pointer (some ⟨hb, 0, none⟩)], .int .i64 k, .int .i64 d] w (GivesK w (A.short d k)) := by
  intro d
  induction d with
  | zero =>
    intro _ k w h
    exact short_stay hS hlen 0 k w h (.inr (by omega))
  | succ d ih =>
    intro hd k w h
    by_cases h6 : A.tag (A.base k) = 6
    · obtain ⟨p, n, hp, hn, hn01⟩ := hS.sel h6
      have hfo := follow_any (h.grew (Grew.alloc w (.cells #[.pointer (some ⟨hb, 0, none⟩)] 71))) hS hlen k
      have hak : (0 ≤ A.follow k ∧ A.base k = A.follow k) ∨ (¬ 0 ≤ A.follow k ∧ A.base k = k) := by
        unfold AH.base
        by_cases q : 0 ≤ A.follow k
        · exact .inl ⟨q, by rw [if_pos q]⟩
        · exact .inr ⟨q, by rw [if_neg q]⟩
      have hpl := hS.ptrs_le
      have hnl := hS.nums_le
      have e1 : ((d + 1 : Nat) : Int) - 1 = (d : Int) := by omega
      refine short_go (hb := hb) ((d + 1 : Nat) : Int) k (A.follow k) (A.base k) p n (A.short d p) (A.short (d + 1) k) w (by omega) (by omega) hak hn01 hfo ?_ ?_ ?_ ?_ (A.tag (A.short d p)) ?_ ?_
      · intro w' hg
        have := tag_any (h.grew hg) (A.base k)
        rw [h6] at this; exact this
      · intro w' hg
        have := ptrs_any (h.grew hg) (A.base k) (by have := hpl (A.base k); omega)
        rw [hp] at this
        exact this.mono (fun e w'' => NewRow.one)
      · intro w' hg
        have := nums_any (h.grew hg) (A.base k) (by have := hnl (A.base k); omega)
        rw [hn] at this
        exact this.mono (fun e w'' => NewRow.one)
      · intro w' hg
        rw [e1]
        exact ih (by omega) p w' (h.grew hg)
      · intro w' hg
        exact tag_any (h.grew hg) _
      · by_cases h2 : A.tag (A.short d p) = 2
        · refine .inr ⟨h2, ?_⟩
          obtain ⟨y, z, hyz, _⟩ := hS.con h2
          refine ⟨y, z, ?_, ?_⟩
          · intro w' hg
            have := ptrs_any (h.grew hg) (A.short d p) (by have := hpl (A.short d p); omega)
            rw [hyz] at this
            exact this.mono (fun e w'' => NewRow.two)
          · intro w' hg
            have e : A.short (d + 1) k = A.short d (if n = 0 then y else z) := by
              simp only [AH.short, h6, if_true, hp, List.getD_cons_zero, h2, hyz, hn]
              rcases hn01 with rfl | rfl <;> simp
            rw [e, e1]
            exact ih (by omega) _ w' (h.grew hg)
        · refine .inl ⟨h2, ?_⟩
          simp only [AH.short, h6, if_true, hp, List.getD_cons_zero, h2, if_false]
    · have e : A.short (d + 1) k = A.base k := by simp only [AH.short, h6, if_false]
      rw [e]
      exact short_stay hS hlen _ k w h (.inl h6)
end Go.Proofs.Ytjhdnbediipibaa
