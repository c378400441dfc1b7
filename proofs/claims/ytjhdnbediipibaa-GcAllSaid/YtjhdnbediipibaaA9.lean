import Derived.Test.YtjhdnbediipibaaA8
/-! gc: the copier. -/
namespace Go.Proofs.Ytjhdnbediipibaa
open Go.RowKit

/-- what a copier knows: old addresses and new ones, in order; how many words are used -/
structure CS where
  ord : List (Int × Int)
  used : Int

def lookI (k : Int) : List (Int × Int) → Option Int
  | [] => none
  | p :: r => if k = p.1 then some p.2 else lookI k r

def CS.put (A : AH) (s : CS) (at' : Int) : CS := ⟨s.ord ++ [(at', s.used)], s.used + osz (A.ptrs at') (A.nums at')⟩
/-- where an object is, and what is known then -/
def CS.copied (A : AH) (d : Nat) (s : CS) (k : Int) : Int × CS :=
  match lookI (A.short d k) s.ord with
  | some n => (n, s)
  | none => (s.used, s.put A (A.short d k))

/-- at cb lies a copier of the heap at hb -/
def CR (w : World) (cb hb d : Nat) (s : CS) (fp : List Nat) : Prop :=
  ∃ (nb : Nat) (es : Array MapEntry) (clock : Nat) (ov : Value),
    w.heap[cb]? = some (.cells #[.pointer (some ⟨hb, 0, none⟩), Kv d, .map (some nb), ov, Kv s.used] 74 (0, 0)) ∧
    w.heap[nb]? = some (.map es clock) ∧ Ents es (s.ord.map fun p => (p.1, Kv p.2)) ∧ Ow w ov (s.ord.map (·.1)) ∧ fp = cb :: nb :: ov.ownBlock.toList

theorem CR.kept {w w' : World} {F : Nat → Prop} {cb hb d : Nat} {s : CS} {fp : List Nat} (h : CR w cb hb d s fp) (k : Fr F w w') (hF : ∀ b ∈ fp, ¬ F b) : CR w' cb hb d s fp := by
  obtain ⟨nb, es, clock, ov, h1, h2, h3, h4, rfl⟩ := h
  exact ⟨nb, es, clock, ov, k.get h1 (hF _ (by simp)), k.get h2 (hF _ (by simp)), h3, h4.kept k (fun g hg => hF g (by simp [hg])), rfl⟩
theorem CR.lt {w : World} {cb hb d : Nat} {s : CS} {fp : List Nat} (h : CR w cb hb d s fp) : ∀ b ∈ fp, b < w.heap.size := by
  obtain ⟨nb, es, clock, ov, h1, h2, h3, h4, rfl⟩ := h
  intro b hb'
  simp only [List.mem_cons, Option.mem_toList] at hb'
  rcases hb' with rfl | rfl | hb'
  · exact lt_of_get h1
  · exact lt_of_get h2
  · exact h4.lt hb'

theorem lookI_kv (k : Int) : ∀ l : List (Int × Int), lookKV k (l.map fun p => (p.1, Kv p.2)) = (lookI k l).map Kv
  | [] => rfl
  | p :: r => by
    simp only [List.map_cons, lookKV, lookI]
    split
    · rfl
    · exact lookI_kv k r

theorem Try.u72 : Try.prog.underlying 72 = some (.map 3 3) := by kernel_rfl
theorem zero3 (w : World) : (zeroValue 3).run Try.prog w = .ok (.int .i64 0) w := by kernel_rfl

theorem CR.look {w : World} {cb hb d : Nat} {s : CS} {fp : List Nat} (h : CR w cb hb d s fp) (k : Int) :
    ∃ nb, w.cell? ⟨cb, 2, none⟩ = some (.map (some nb)) ∧
      (Instr.lookup 72 (.map (some nb)) (Kv k) true).run Try.prog w = .ok (.tuple #[Kv ((lookI k s.ord).getD 0), .bool (lookI k s.ord).isSome]) w := by
  obtain ⟨nb, es, clock, ov, h1, h2, h3, h4, rfl⟩ := h
  refine ⟨nb, by rw [cell_of_get h1]; rfl, ?_⟩
  have hr := run_look Try.prog Try.u3 Try.u72 (zero3 w) h2 h3 k true
  rw [lookI_kv] at hr
  rw [hr]
  cases lookI k s.ord <;> rfl

def CopiedPost (w : World) (A : AH) (cb hb d : Nat) (s : CS) (k : Int) (fp2 : List Nat) (e : Ending) (w' : World) : Prop :=
  e = .returned (Kv (s.copied A d k).1) ∧ ∃ fp', CR w' cb hb d (s.copied A d k).2 fp' ∧ Fr (· ∈ fp2) w w' ∧ ∀ b ∈ fp', b ∈ fp2 ∨ w.heap.size ≤ b

set_option maxHeartbeats 1000000 in
set_option maxRecDepth 100000 in
/-- a post that is a letter, behind a name -/
def PostIs (R : Ending → World → Prop) (e : Ending) (w : World) : Prop := R e w

/-- it is there already -/
theorem copied_is {hb cb : Nat} {A : AH} {fp fp2 : List Nat} {d : Nat} {s : CS} {w : World} (hS : A.Shaped) (hlen : A.objs.length ≤ 1000000) (hd : d ≤ 1000) (k : Int) (h : PH w hb A fp) (hC : CR w cb hb d s fp2)
    {n : Int} (hl : lookI (A.short d k) s.ord = some n) {R : Ending → World → Prop} (hpost : ∀ w', Grew w w' → R (.returned (Kv n)) w') :
    Calls Try.prog 64 #[.pointer (some ⟨cb, 0, none⟩), .int .i64 k] w (PostIs R) := by
  have H := hid (show ∀ w', Grew w w' → PostIs R (.returned (Kv n)) w' from hpost)
  have hsh := fun w' (hg : Grew w w') => short_any hS hlen d hd k w' (h.grew hg)
  have HS := hid hsh
  have hlk := fun w' (hg : Grew w w') => (hC.kept hg (fun _ _ f => f)).look (A.short d k)
  have HL := hid hlk
  obtain ⟨nb, es, clock, ov, h1, _⟩ := hC
  have c0 : w.cell? ⟨cb, 0, none⟩ = some (.pointer (some ⟨hb, 0, none⟩)) := by rw [cell_of_get h1]; rfl
  have c1 : w.cell? ⟨cb, 1, none⟩ = some (Kv d) := by rw [cell_of_get h1]; rfl
  have HN := hid hl
  clear h hpost hsh hlk h1 hl
  generalize A.short d k = a at *
  go_enter Try.func64, Try.ntmps64
  go_wp2
  refine wp_region_facts 10 Grew [(8, Ex (.pointer (some ⟨cb, 0, none⟩))), (9, Ex (.pointer (some ⟨cb, 0, none⟩))), (10, Ex (.pointer (some ⟨cb, 0, none⟩))), (11, Ex (.agg #[.pointer (some ⟨hb, 0, none⟩)])), (12, Ex (Kv k)), (13, Ex (.pointer (some ⟨cb, 0, none⟩))), (14, Ex (.pointer (some ⟨cb, 0, none⟩))), (15, Ex (.pointer (some ⟨cb, 1, none⟩))), (16, Ex (Kv d)), (17, Ex (Kv a))] (by kernel_rfl) (by kernel_rfl) (by rfl) (by rfl)
    (fun a => Fr.refl _ a) (fun a b c h k => h.trans k (fun _ _ f => f)) (Fr.refl _ _).drew
    (Stays.all ⟨Ex.stays _, Ex.stays _, Ex.stays _, Ex.stays _, Ex.stays _, Ex.stays _, Ex.stays _, Ex.stays _, Ex.stays _, Ex.stays _, trivial⟩) ?_ ?_
  · go_light
    refine OpGoals.cons ?_ (OpGoals.cons ?_ (OpGoals.cons ?_ (OpGoals.cons ?_ (OpGoals.cons ?_ (OpGoals.cons ?_ (OpGoals.cons ?_ (OpGoals.cons ?_ (OpGoals.cons ?_ (OpGoals.cons ?_ OpGoals.none)))))))))
    all_goals (intro a' w' hS hR; simp [Rd, Op.operands, Call.operands, Fk, Ex] at hR)
    all_goals (show Yields _ _ _ _ _)
    all_goals (have hc0 := hS.cell c0 (fun f => f))
    all_goals (have hc1 := hS.cell c1 (fun f => f))
    all_goals try (simp [Yields, execOp, Act.eval, hR, hc0, hc1, go_sem, Fk, Ex, Fr.refl]; done)
    · simp [Yields, Act.eval, hR, go_sem, Fk, Ex]
      refine (HS.out _ hS).mono ?_
      rintro e w2 ⟨rfl, h3⟩
      exact ⟨_, rfl, rfl, h3⟩
  · intro w' hS
    rintro _ rfl _ rfl _ rfl _ rfl _ rfl _ rfl _ rfl _ rfl _ rfl _ rfl
    refine Then.nil ?_
    obtain ⟨nb', hc2, hrun⟩ := HL.out w' hS
    rw [HN.out] at hrun
    simp only [Option.getD_some, Option.isSome_some] at hrun
    have HP := hid (H.out w' hS)
    clear hS c0 c1
    go_wp2
    go_ret
    exact HP.out

/-- it is there already -/
theorem copied_old {hb cb : Nat} {A : AH} {fp fp2 : List Nat} {d : Nat} {s : CS} {w : World} (hS : A.Shaped) (hlen : A.objs.length ≤ 1000000) (hd : d ≤ 1000) (k : Int) (h : PH w hb A fp) (hC : CR w cb hb d s fp2)
    {n : Int} (hl : lookI (A.short d k) s.ord = some n) :
    Calls Try.prog 64 #[.pointer (some ⟨cb, 0, none⟩), .int .i64 k] w (CopiedPost w A cb hb d s k fp2) := by
  refine (copied_is hS hlen hd k h hC hl (R := CopiedPost w A cb hb d s k fp2) ?_).mono (fun _ _ h => h)
  intro w' hg
  have e : s.copied A d k = (n, s) := by simp [CS.copied, hl]
  unfold CopiedPost
  rw [e]
  exact ⟨rfl, fp2, hC.kept hg (fun _ _ f => f), Grew.any hg, fun b hb' => .inl hb'⟩

/-- a slice of so many -/
def FLen (n : Nat) (v : Value) (_ : World) : Prop := ∃ a c, v = .slice a n c
theorem FLen.stays (n : Nat) : ∀ v w w', Grew w w' → FLen n v w → FLen n v w' := fun _ _ _ _ h => h

theorem Ow.one (w : World) (z : Int) : Ow (w.alloc (.cells #[.int .i64 z] 3)) (.slice (some ⟨w.heap.size, 0, none⟩) 1 1) [z] :=
  ⟨by simp, .inr ⟨w.heap.size, 1, #[.int .i64 z], rfl, Nat.zero_le _, heap_alloc_new w _, Nat.le_refl _, by simp [maxLen], by simp, by simp⟩⟩

theorem lookKV_none {k : Int} {l : List (Int × Int)} (h : lookI k l = none) : lookKV k (l.map fun p => (p.1, Kv p.2)) = none := by rw [lookI_kv, h]; rfl

set_option maxHeartbeats 1000000 in
set_option maxRecDepth 100000 in
/-- it comes -/
theorem copied_new {hb cb : Nat} {A : AH} {fp fp2 : List Nat} {d : Nat} {s : CS} {w : World} (hS : A.Shaped) (hlen : A.objs.length ≤ 1000000) (hd : d ≤ 1000) (k : Int) (h : PH w hb A fp) (hC : CR w cb hb d s fp2)
    (hdis : ∀ b ∈ fp, b ∉ fp2) (hu0 : 0 ≤ s.used) (hu1 : s.used ≤ 1000000000) (ho : s.ord.length ≤ 1000000) (hl : lookI (A.short d k) s.ord = none) :
    Calls Try.prog 64 #[.pointer (some ⟨cb, 0, none⟩), .int .i64 k] w (CopiedPost w A cb hb d s k fp2) := by
  have hsh := fun w' (hg : Grew w w') => short_any hS hlen d hd k w' (h.grew hg)
  have HS := hid hsh
  have hlk := fun w' (hg : Grew w w') => (hC.kept hg (fun _ _ f => f)).look (A.short d k)
  have HL := hid hlk
  have HPH := hid h
  have HCR := hid hC
  have hecop : s.copied A d k = (s.used, s.put A (A.short d k)) := by simp [CS.copied, hl]
  have HE := hid hecop
  obtain ⟨nb0, es0, clock0, ov0, h1, hjunk⟩ := hC
  clear hjunk
  have c0 : w.cell? ⟨cb, 0, none⟩ = some (.pointer (some ⟨hb, 0, none⟩)) := by rw [cell_of_get h1]; rfl
  have c1 : w.cell? ⟨cb, 1, none⟩ = some (Kv d) := by rw [cell_of_get h1]; rfl
  have HN := hid hl
  have HD := hid hdis
  have HO := hid ho
  have HSh := hid hS
  clear h hsh hlk h1 hl hecop hdis ho hS
  generalize A.short d k = a at *
  go_enter Try.func64, Try.ntmps64
  go_wp2
  refine wp_region_facts 10 Grew [(8, Ex (.pointer (some ⟨cb, 0, none⟩))), (9, Ex (.pointer (some ⟨cb, 0, none⟩))), (10, Ex (.pointer (some ⟨cb, 0, none⟩))), (11, Ex (.agg #[.pointer (some ⟨hb, 0, none⟩)])), (12, Ex (Kv k)), (13, Ex (.pointer (some ⟨cb, 0, none⟩))), (14, Ex (.pointer (some ⟨cb, 0, none⟩))), (15, Ex (.pointer (some ⟨cb, 1, none⟩))), (16, Ex (Kv d)), (17, Ex (Kv a))] (by kernel_rfl) (by kernel_rfl) (by rfl) (by rfl)
    (fun a => Fr.refl _ a) (fun a b c h k => h.trans k (fun _ _ f => f)) (Fr.refl _ _).drew
    (Stays.all ⟨Ex.stays _, Ex.stays _, Ex.stays _, Ex.stays _, Ex.stays _, Ex.stays _, Ex.stays _, Ex.stays _, Ex.stays _, Ex.stays _, trivial⟩) ?_ ?_
  · go_light
    refine OpGoals.cons ?_ (OpGoals.cons ?_ (OpGoals.cons ?_ (OpGoals.cons ?_ (OpGoals.cons ?_ (OpGoals.cons ?_ (OpGoals.cons ?_ (OpGoals.cons ?_ (OpGoals.cons ?_ (OpGoals.cons ?_ OpGoals.none)))))))))
    all_goals (intro a' w' hS hR; simp [Rd, Op.operands, Call.operands, Fk, Ex] at hR)
    all_goals (show Yields _ _ _ _ _)
    all_goals (have hc0 := hS.cell c0 (fun f => f))
    all_goals (have hc1 := hS.cell c1 (fun f => f))
    all_goals try (simp [Yields, execOp, Act.eval, hR, hc0, hc1, go_sem, Fk, Ex, Fr.refl]; done)
    · simp [Yields, Act.eval, hR, go_sem, Fk, Ex]
      refine (HS.out _ hS).mono ?_
      rintro e w2 ⟨rfl, h3⟩
      exact ⟨_, rfl, rfl, h3⟩
  · intro w1 hG1
    rintro _ rfl _ rfl _ rfl _ rfl _ rfl _ rfl _ rfl _ rfl _ rfl _ rfl
    refine Then.nil ?_
    obtain ⟨nb', hc2, hrun⟩ := HL.out w1 hG1
    rw [HN.out] at hrun
    simp only [Option.getD_none, Option.isSome_none] at hrun
    obtain ⟨nb, es, clock, ov, g1, g2, g3, g4, g5⟩ := HCR.out.kept hG1 (fun _ _ f => f)
    have enb : nb' = nb := by rw [cell_of_get g1] at hc2; cases hc2; rfl
    subst enb
    have hne : cb ≠ nb' := by intro e; subst e; rw [g1] at g2; cases g2
    have hov : ∀ q, ov.ownBlock = some q → q ≠ cb ∧ q ≠ nb' := by
      intro q hq
      rcases g4.parts with ⟨rfl, _⟩ | ⟨g, cap, cur, rfl, hgc, _⟩
      · cases hq
      · cases hq
        exact ⟨fun e => (by subst e; rw [g1] at hgc; cases hgc), fun e => (by subst e; rw [g2] at hgc; cases hgc)⟩
    -- the store into the map
    obtain ⟨W2, hmu, k1, k2, k3⟩ : ∃ W2, (Instr.mapUpdate 72 (.map (some nb')) (Kv a) (Kv s.used)).run Try.prog w1 = .ok () W2 ∧
        W2.heap[nb']? = some (.map (es.push { key := Kv a, val := Kv s.used, born := clock }) (clock + 1)) ∧ Fr (fun q => q = nb') w1 W2 ∧ W2.heap[cb]? = some (.cells #[.pointer (some ⟨hb, 0, none⟩), Kv d, .map (some nb'), ov, Kv s.used] 74 (0, 0)) :=
      ⟨putO w1 nb' _, run_put Try.prog Try.u3 Try.u72 g2 g3 a (Kv s.used) (lookKV_none HN.out), putO_get (lt_of_get g2) _, (Fr.refl (fun q => q = nb') w1).putO (fun _ => rfl) _, by rw [putO_other hne]; exact g1⟩
    have e3 := g3.push a (Kv s.used) clock
    -- the append
    have hA3 := Grew.alloc W2 (.cells #[.int .i64 a] 3)
    have hov3 : Ow (W2.alloc (.cells #[.int .i64 a] 3)) ov (s.ord.map (·.1)) := (g4.kept k2 (fun q hq => (hov q hq).2)).kept hA3 (fun _ _ f => f)
    obtain ⟨v', W4, happ, ho4, hf4, hfr4⟩ := app_ow hov3 (Ow.one W2 a) (by have := HO.out; simp; omega) 22
    have hcb4 : W4.heap[cb]? = some (.cells #[.pointer (some ⟨hb, 0, none⟩), Kv d, .map (some nb'), ov, Kv s.used] 74 (0, 0)) :=
      hf4.get (hA3.get k3 (fun f => f)) (fun e => (hov cb e).1 rfl)
    have hnb4 : W4.heap[nb']? = some (.map (es.push { key := Kv a, val := Kv s.used, born := clock }) (clock + 1)) :=
      hf4.get (hA3.get k1 (fun f => f)) (fun e => (hov nb' e).2 rfl)
    have hfpg : ∀ b ∈ fp, b ≠ cb ∧ b ≠ nb' ∧ ov.ownBlock ≠ some b := by
      intro b hb'
      have := HD.out b hb'
      rw [g5] at this
      simp only [List.mem_cons, Option.mem_toList, not_or] at this
      exact this
    have hPH4 : PH W4 hb A fp := (((HPH.out.grew hG1).kept k2 (fun b hb' => (hfpg b hb').2.1)).grew hA3).kept hf4 (fun b hb' => (hfpg b hb').2.2)
    obtain ⟨va, vc, rfl, hvl, hvm⟩ := ho4.shape
    have hl5 : (s.ord.map (·.1) ++ [a]).length = s.ord.length + 1 := by simp
    rw [hl5] at ho4 happ hfr4 hvl
    -- the order's field
    have hPH5 : PH (W4.setCell ⟨cb, 3, none⟩ (.slice va (s.ord.length + 1) vc)) hb A fp := hPH4.kept ((Fr.refl (fun q => q = cb) W4).setCell (p := ⟨cb, 3, none⟩) (fun _ => rfl) _) (fun b hb' => (hfpg b hb').1)
    have hcb5 := setCell_get hcb4 3 (.slice va (s.ord.length + 1) vc)
    have hF45 := (Fr.refl (fun q => q = cb) W4).setCell (p := ⟨cb, 3, none⟩) (fun _ => rfl) (.slice va (s.ord.length + 1) vc)
    have hnb5 := hF45.get hnb4 (Ne.symm hne)
    have hvn : ∀ q, (Value.slice va (s.ord.length + 1) vc).ownBlock = some q → q ≠ cb ∧ q ≠ nb' ∧ (q ∈ fp2 ∨ w.heap.size ≤ q) := by
      intro q hq
      rcases hfr4 q hq with h | h
      · exact ⟨(hov q h).1, (hov q h).2, .inl (by rw [g5]; simp [h])⟩
      · have hz := hG1.size
        have hz2 := k2.size
        have hz3 := lt_of_get g1
        have hz4 := lt_of_get g2
        simp at h
        exact ⟨by omega, by omega, .inr (by omega)⟩
    have ho5 := ho4.kept hF45 (fun q hq => (hvn q hq).1)
    -- what the end must show
    have hend : ∀ W6, Grew (W4.setCell ⟨cb, 3, none⟩ (.slice va (s.ord.length + 1) vc)) W6 →
        CopiedPost w A cb hb d s k fp2 (.returned (Kv s.used)) (W6.setCell ⟨cb, 4, none⟩ (Kv (s.used + osz (A.ptrs a) (A.nums a)))) := by
      intro W6 hG6
      unfold CopiedPost
      rw [HE.out]
      have hF67 := (Fr.refl (fun q => q = cb) W6).setCell (p := ⟨cb, 4, none⟩) (fun _ => rfl) (Kv (s.used + osz (A.ptrs a) (A.nums a)))
      refine ⟨rfl, cb :: nb' :: (Value.slice va (s.ord.length + 1) vc).ownBlock.toList, ⟨nb', _, _, _, setCell_get (hG6.get hcb5 (fun f => f)) 4 _, hF67.get (hG6.get hnb5 (fun f => f)) (Ne.symm hne), ?_, ?_, rfl⟩, ?_, ?_⟩
      · simpa [CS.put] using e3
      · have h5 := (ho5.kept hG6 (fun _ _ f => f)).kept hF67 (fun q hq => (hvn q hq).1)
        simpa [CS.put] using h5
      · have q1 : Fr (· ∈ fp2) w w1 := Grew.any hG1
        have q2 := q1.trans k2 (fun i _ e => by subst e; rw [g5]; simp)
        have q3 := q2.trans hA3 (fun _ _ f => f.elim)
        have q4 := q3.trans hf4 (fun i _ e => by rw [g5]; simp [e])
        have q5 := q4.trans hF45 (fun i _ e => by subst e; rw [g5]; simp)
        have q6 := q5.trans hG6 (fun _ _ f => f.elim)
        exact q6.trans hF67 (fun i _ e => by subst e; rw [g5]; simp)
      · intro b hb'
        simp only [List.mem_cons, Option.mem_toList] at hb'
        rcases hb' with rfl | rfl | hb'
        · exact .inl (by rw [g5]; simp)
        · exact .inl (by rw [g5]; simp)
        · exact (hvn b hb').2.2
    have HEND := hid hend
    have HAPP := hid happ
    have HPH5 := hid hPH5
    have HG1 := hid hG1
    have m2 : w1.cell? ⟨cb, 4, none⟩ = some (Kv s.used) := by rw [cell_of_get g1]; rfl
    have n3 : W2.cell? ⟨cb, 3, none⟩ = some ov := by rw [cell_of_get k3]; rfl
    have o3 : W4.cell? ⟨cb, 3, none⟩ = some ov := by rw [cell_of_get hcb4]; rfl
    have o3f : W4.frozen? ⟨cb, 3, none⟩ = false := frozen_of_get hcb4 3
    have HCB5 := hid hcb5
    have n2 : W2.cell? ⟨cb, 2, none⟩ = some (.map (some nb')) := by rw [cell_of_get k3]; rfl
    clear hend happ hPH5 hPH4 hG1 ho5 hvn hnb5 hF45 hcb5 hfpg hcb4 hnb4 ho4 hf4 hfr4 hvl hvm hov3 hA3 e3 k1 k2 k3 hov g1 g2 g3 g4 g5 c0 c1
    go_wp2_with (at_builtin; refine wpList_app rfl rfl rfl rfl HAPP.out ?_)
    generalize W4.setCell ⟨cb, 3, none⟩ (.slice va (s.ord.length + 1) vc) = W5 at *
    have d0 : W5.cell? ⟨cb, 0, none⟩ = some (.pointer (some ⟨hb, 0, none⟩)) := by rw [cell_of_get HCB5.out]; rfl
    have d4 : W5.cell? ⟨cb, 4, none⟩ = some (Kv s.used) := by rw [cell_of_get HCB5.out]; rfl
    have f4 : W5.frozen? ⟨cb, 4, none⟩ = false := frozen_of_get HCB5.out 4
    have hpl := HSh.out.ptrs_le a
    have hnl := HSh.out.nums_le a
    have hoz : 0 ≤ osz (A.ptrs a) (A.nums a) ∧ osz (A.ptrs a) (A.nums a) ≤ 121 := by unfold osz; omega
    have hw1 : IntKind.i64.wrap (s.used + osz (A.ptrs a) (A.nums a)) = s.used + osz (A.ptrs a) (A.nums a) := IntWalk.i64_in _ (by omega)
    refine wp_region_facts 24 Grew [(49, Ex (.pointer (some ⟨cb, 0, none⟩))), (50, Ex (.pointer (some ⟨cb, 0, none⟩))), (51, Ex (.pointer (some ⟨cb, 4, none⟩))), (52, Ex (Kv s.used)), (53, Ex (.pointer (some ⟨cb, 0, none⟩))), (54, Ex (.pointer (some ⟨cb, 0, none⟩))), (55, Ex (.pointer (some ⟨cb, 0, none⟩))), (56, Ex (.pointer (some ⟨cb, 0, none⟩))), (57, Ex (.pointer (some ⟨hb, 0, none⟩))), (58, Ex (Kv a)), (59, FLen (A.ptrs a).length), (60, Ex (Kv (A.ptrs a).length)), (61, Ex (.pointer (some ⟨cb, 0, none⟩))), (62, Ex (.pointer (some ⟨cb, 0, none⟩))), (63, Ex (.pointer (some ⟨cb, 0, none⟩))), (64, Ex (.pointer (some ⟨cb, 0, none⟩))), (65, Ex (.pointer (some ⟨hb, 0, none⟩))), (66, Ex (Kv a)), (67, FLen (A.nums a).length), (68, Ex (Kv (A.nums a).length)), (69, Ex (Kv (osz (A.ptrs a) (A.nums a)))), (70, Ex (Kv (s.used + osz (A.ptrs a) (A.nums a)))), (71, Ex (.pointer (some ⟨cb, 0, none⟩))), (72, Ex (.pointer (some ⟨cb, 4, none⟩)))] (by kernel_rfl) (by kernel_rfl) (by rfl) (by rfl)
      (fun a => Fr.refl _ a) (fun a b c h k => h.trans k (fun _ _ f => f)) (Fr.refl _ _).drew
      (Stays.all ⟨Ex.stays _, Ex.stays _, Ex.stays _, Ex.stays _, Ex.stays _, Ex.stays _, Ex.stays _, Ex.stays _, Ex.stays _, Ex.stays _, FLen.stays _, Ex.stays _, Ex.stays _, Ex.stays _, Ex.stays _, Ex.stays _, Ex.stays _, Ex.stays _, FLen.stays _, Ex.stays _, Ex.stays _, Ex.stays _, Ex.stays _, Ex.stays _, trivial⟩) ?_ ?_
    · go_light
      refine OpGoals.cons ?_ (OpGoals.cons ?_ (OpGoals.cons ?_ (OpGoals.cons ?_ (OpGoals.cons ?_ (OpGoals.cons ?_ (OpGoals.cons ?_ (OpGoals.cons ?_ (OpGoals.cons ?_ (OpGoals.cons ?_ (OpGoals.cons ?_ (OpGoals.cons ?_ (OpGoals.cons ?_ (OpGoals.cons ?_ (OpGoals.cons ?_ (OpGoals.cons ?_ (OpGoals.cons ?_ (OpGoals.cons ?_ (OpGoals.cons ?_ (OpGoals.cons ?_ (OpGoals.cons ?_ (OpGoals.cons ?_ (OpGoals.cons ?_ (OpGoals.cons ?_ OpGoals.none)))))))))))))))))))))))
      all_goals (intro a' w' hS hR; simp [Rd, Op.operands, Call.operands, Fk, Ex] at hR)
      all_goals (show Yields _ _ _ _ _)
      all_goals (have hc0 := hS.cell d0 (fun f => f))
      all_goals (have hc4 := hS.cell d4 (fun f => f))
      all_goals try (simp [Yields, execOp, Act.eval, hR, hc0, hc4, hw1, go_sem, Fk, Ex, Fr.refl]; done)
      · simp [Yields, Act.eval, hR, go_sem, Fk, Ex]
        refine (ptrs_any (HPH5.out.grew hS) a (by omega)).mono ?_
        rintro e w2 ⟨v, rfl, h1, h2, _⟩
        obtain ⟨x, c, rfl, _⟩ := h1.shape
        exact ⟨_, rfl, ⟨x, c, rfl⟩, h2⟩
      · obtain ⟨x, c, hx⟩ := hR
        simp [Yields, Act.eval, hx, go_sem, Fk, Ex, Fr.refl]
      · simp [Yields, Act.eval, hR, go_sem, Fk, Ex]
        refine (nums_any (HPH5.out.grew hS) a (by omega)).mono ?_
        rintro e w2 ⟨v, rfl, h1, h2, _⟩
        obtain ⟨x, c, rfl, _⟩ := h1.shape
        exact ⟨_, rfl, ⟨x, c, rfl⟩, h2⟩
      · obtain ⟨x, c, hx⟩ := hR
        simp [Yields, Act.eval, hx, go_sem, Fk, Ex, Fr.refl]
      · simp [Yields, Act.eval, hR, go_sem, Fk, Ex]
        refine (size_any _ _ _ (by omega) (by omega)).mono ?_
        rintro e w2 ⟨rfl, rfl⟩
        exact ⟨_, rfl, rfl, Fr.refl _ _⟩
    · intro W6 hS
      rintro _ rfl _ rfl _ rfl _ rfl _ rfl _ rfl _ rfl _ rfl _ rfl _ rfl v59 _ _ rfl _ rfl _ rfl _ rfl _ rfl _ rfl _ rfl v67 _ _ rfl _ rfl _ rfl _ rfl _ rfl
      refine Then.nil ?_
      replace d4 := hS.cell d4 (fun f => f)
      have f6 : W6.frozen? ⟨cb, 4, none⟩ = false := frozen_of_get (hS.get HCB5.out (fun f => f)) 4
      have HP := hid (HEND.out W6 hS)
      clear hS d0 f4 hoz hw1
      go_wp2
      go_ret
      exact HP.out

theorem copied_any {hb cb : Nat} {A : AH} {fp fp2 : List Nat} {d : Nat} {s : CS} {w : World} (hS : A.Shaped) (hlen : A.objs.length ≤ 1000000) (hd : d ≤ 1000) (k : Int) (h : PH w hb A fp) (hC : CR w cb hb d s fp2)
    (hdis : ∀ b ∈ fp, b ∉ fp2) (hu0 : 0 ≤ s.used) (hu1 : s.used ≤ 1000000000) (ho : s.ord.length ≤ 1000000) :
    Calls Try.prog 64 #[.pointer (some ⟨cb, 0, none⟩), .int .i64 k] w (CopiedPost w A cb hb d s k fp2) := by
  cases hl : lookI (A.short d k) s.ord with
  | some n => exact copied_old hS hlen hd k h hC hl
  | none => exact copied_new hS hlen hd k h hC hdis hu0 hu1 ho hl
end Go.Proofs.Ytjhdnbediipibaa
