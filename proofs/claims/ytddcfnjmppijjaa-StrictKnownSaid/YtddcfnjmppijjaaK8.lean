import Derived.Test.YtddcfnjmppijjaaU21
import Derived.Test.YtddcfnjmppijjaaU19
import Derived.Test.YtddcfnjmppijjaaM26
/-! StrictNeeds's walk. -/
namespace Go.Proofs.Ytddcfnjmppijjaa
open Go.RowKit

theorem NS.mono {e B C : Nat} {w : World} {v : Value} {L : List NdD} {nl : Ned} (h : NS e B w v L nl) (hC : C ≤ B) : NS e C w v L nl :=
  ⟨h.row.mono hC, h.len, fun i d hd => by obtain ⟨bs, k1, k2, k3⟩ := h.el i d hd; exact ⟨bs, k1, k2, k3.mono hC⟩, h.row', h.sep⟩
theorem pas_len (F : List (Str × X)) (nl : Ned) : (pas F nl).length = nl.length := (pasTo_le F nl F.length).len
theorem run_len {F : List (Str × X)} {nl : Ned} (h : Run F nl) : nl.length = F.length := by
  induction h with
  | zero => simp [ini]
  | succ nl _ ih => rw [pas_len, ih]
/-- a term's needs in memory -/
def FN8 (e B : Nat) (x : X) (v : Value) (w : World) : Prop := ∃ a m c L nl, v = .slice a m c ∧ NS e B w (.slice a m c) L nl ∧ L.length ≤ 900000 ∧ Run x.lams nl ∧ pas x.lams nl = nl
theorem FN8.stays (e B : Nat) (x : X) (v : Value) (w w' : World) (h : Grew w w') (k : FN8 e B x v w) : FN8 e B x v w' := by
  obtain ⟨a, m, c, L, nl, e, h1, h2⟩ := k
  exact ⟨a, m, c, L, nl, e, h1.grew h, h2⟩
theorem NdPost.fn8 {e B : Nat} {w w' : World} {x : X} {r : Ending} (h : NdPost e w x r w') (hB : B ≤ w.heap.size) (hx : x.size ≤ 900000) : ∃ v, r = .returned v ∧ FN8 e B x v w' ∧ Grew w w' := by
  obtain ⟨a, m, c, L, nl, rfl, h1, h2, h3, h4⟩ := h
  have h5 := lams_len x
  exact ⟨_, rfl, ⟨a, m, c, L, nl, rfl, h1.mono hB, by rw [← h1.len, run_len h2]; omega, h2, h3⟩, h4⟩
theorem good_ne {x : X} (h : Good [] x) : Ne x := ⟨good_so h, good_small h (by simp), good_fo h⟩

set_option maxHeartbeats 8000000 in
set_option maxRecDepth 100000 in
theorem sneeds_walk {W : World} {v : Value} {l : List RT} (h : RRow W (fun _ => False) v l) : Calls Try.prog 3 #[v] W fun e W' => e = .returned (.bool true) ∧ Grew W W' := by
  have hk := known8_any W
  have hf := fun W1 (g : Grew W W1) => few_any (h.kept g (fun _ f => f.elim))
  have HT := hid (fun W1 (g : Grew W W1) (hn : nodesL l ≤ 40) => term_any (h.kept g (fun _ f => f.elim)) hn)
  obtain ⟨ad, cap, rfl, -⟩ := h.shape
  clear h
  go_enter Try.func3, Try.ntmps3
  go_upto_region 3 with (go_at_call 16; (with_reducible refine hk.mono ?_); rintro e w1 ⟨rfl, hg1⟩; clear hk)
  have hcall := hf _ hg1
  have HG1 := hid hg1
  clear hf hg1
  go_wp2_with fail
  refine hcall.mono ?_
  rintro e w2 ⟨b, rfl, hb, rfl⟩
  clear hcall
  cases b
  · clear hb
    go_wp2
    go_ret
    exact ⟨rfl, HG1.out⟩
  · have hcall := HT.out _ HG1.out (hb rfl)
    have HN := hid (hb rfl)
    clear hb
    go_wp2_with fail
    refine hcall.mono ?_
    rintro e w3 ⟨e', x, rfl, hrd, hgd, hsz, hg3⟩
    obtain ⟨vn, va, rfl, hn, hr⟩ := hrd.mono (E := fun _ => False) (fun _ _ f => f.elim)
    obtain ⟨an, cn, rfl, -⟩ := hn.shape
    obtain ⟨aa, ca, rfl, -⟩ := hr.shape
    obtain ⟨W4, hW4⟩ : ∃ q : World, q = w3.alloc (.cells #[Kv x.kind, St x.text, .slice an x.names.length cn, .slice aa x.parts.length ca] 28) := ⟨_, rfl⟩
    have g4 : Grew w3 W4 := by rw [hW4]; exact (Fr.refl _ _).alloc _
    have hb4 : W4.heap[w3.heap.size]? = some (.cells #[Kv x.kind, St x.text, .slice an x.names.length cn, .slice aa x.parts.length ca] 28 (0, 0)) := by rw [hW4]; exact heap_alloc_new w3 _
    have HC := hid (And.intro (cell_of_get hb4 0) (And.intro (cell_of_get hb4 1) (And.intro (cell_of_get hb4 2) (cell_of_get hb4 3))))
    have HRD := hid (show Rd W4 (fun _ => False) (.agg #[Kv x.kind, St x.text, .slice an x.names.length cn, .slice aa x.parts.length ca]) x from ⟨_, _, rfl, hn.grew g4, hr.grew g4⟩)
    have HNE := hid (good_ne hgd)
    have hsz4 : x.size ≤ 400 := by have := HN.out; omega
    have HG4 := hid ((HG1.out.trans hg3 (fun _ _ f => f)).trans g4 (fun _ _ f => f))
    clear hcall hrd hn hr hgd hsz hg3 g4 hb4
    go_upto_region 6 with (fail)
    rw [← hW4]
    clear hW4
    refine Rg.wp_region_facts 6 Grew [(11, Rg.Ex (.agg #[Kv x.kind, St x.text, .slice an x.names.length cn, .slice aa x.parts.length ca])), (12, FN8 42 W4.heap.size x), (13, FN8 44 W4.heap.size x), (14, Rg.Ex (.agg #[Kv x.kind, St x.text, .slice an x.names.length cn, .slice aa x.parts.length ca])), (15, FN8 44 W4.heap.size x), (16, Rg.Ex (.bool true))] (by kernel_rfl) (by kernel_rfl) (by rfl) (by rfl)
      (fun a => Fr.refl _ a) (fun a b c h k => h.trans k (fun _ _ f => f)) (Fr.refl _ _).drew
      (Rg.Stays.all ⟨Rg.Ex.stays _, FN8.stays _ _ _, FN8.stays _ _ _, Rg.Ex.stays _, FN8.stays _ _ _, Rg.Ex.stays _, trivial⟩) ?_ ?_
    · go_light
      refine Rg.OpGoals.cons (Rg.OpGoal.plain rfl ?_) (Rg.OpGoals.cons (Rg.OpGoal.plain rfl ?_) (Rg.OpGoals.cons (Rg.OpGoal.plain rfl ?_) (Rg.OpGoals.cons (Rg.OpGoal.plain rfl ?_) (Rg.OpGoals.cons (Rg.OpGoal.plain rfl ?_) (Rg.OpGoals.cons (Rg.OpGoal.plain rfl ?_) Rg.OpGoals.none)))))
      all_goals (intro a' w' hS hR; simp [Rg.Rd, Op.operands, Call.operands, Rg.Fk, Rg.Ex] at hR)
      all_goals (have c0' := hS.cell HC.out.1 (fun f => f))
      all_goals (have c1' := hS.cell HC.out.2.1 (fun f => f))
      all_goals (have c2' := hS.cell HC.out.2.2.1 (fun f => f))
      all_goals (have c3' := hS.cell HC.out.2.2.2 (fun f => f))
      all_goals try (simp [Rg.Yields, execOp, Act.eval, hR, c0', c1', c2', c3', go_sem, Rg.Fk, Rg.Ex, Fr.refl]; done)
      · simp [Rg.Yields, Act.eval, hR, go_sem, Rg.Fk, Rg.Ex]
        refine (needs_any (HRD.out.grew hS) HNE.out (by omega)).mono ?_
        intro e w2 hp
        obtain ⟨v, rfl, h1, h2⟩ := hp.fn8 hS.size (by omega)
        exact ⟨v, rfl, h1, h2⟩
      · obtain ⟨a, m, c, L, nl, e1, k1, k2, k3, k4⟩ := hR
        simp [Rg.Yields, Act.eval, e1, go_sem, Rg.Fk, Rg.Ex]
        refine (conv_needs k1 hS.size k2).mono ?_
        rintro e w2 ⟨a', m', c', rfl, h1, h2⟩
        exact ⟨_, rfl, ⟨a', m', c', L, nl, rfl, h1, k2, k3, k4⟩, h2⟩
      · simp [Rg.Yields, Act.eval, hR, go_sem, Rg.Fk, Rg.Ex]
        refine (refneeds_any (HRD.out.grew hS) HNE.out (by omega)).mono ?_
        intro e w2 hp
        obtain ⟨v, rfl, h1, h2⟩ := hp.fn8 hS.size (by omega)
        exact ⟨v, rfl, h1, h2⟩
      · obtain ⟨⟨a, m, c, L, nl, e1, k1, k2, k3, k4⟩, ⟨a', m', c', L', nl', e2, q1, q2, q3, q4⟩⟩ := hR
        have hsm := k3.same k4 q3 q4
        subst hsm
        simp [Rg.Yields, Act.eval, e1, e2, go_sem, Rg.Fk, Rg.Ex]
        refine (same_needs k1.nd q1.nd).mono ?_
        rintro e w2 ⟨rfl, h2⟩
        exact ⟨_, rfl, rfl, h2⟩
    · intro w9 hS
      rintro _ rfl v12 h12 v13 h13 _ rfl v15 h15 _ rfl
      refine Rg.Then.nil ?_
      clear h12 h13 h15
      have HG5 := hid (HG4.out.trans hS (fun _ _ f => f))
      clear hS
      go_wp2
      go_ret
      exact ⟨rfl, HG5.out⟩
end Go.Proofs.Ytddcfnjmppijjaa
