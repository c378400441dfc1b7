import Derived.Test.YtddcfnjmppijjaaU1
import Derived.Test.YtddcfnjmppijjaaT4
import Derived.Test.YtddcfnjmppijjaaV1
/-! The document's sets: both, each. -/
namespace Go.Proofs.Ytddcfnjmppijjaa
open Go.RowKit

/-- a set of names in memory, in order -/
structure RS (w : World) (a : Option Addr) (c : Nat) (A : Bool) (ls : List Str) (d : DS) : Prop where
  nm : Nm w (fun _ => False) (.slice a ls.length c) ls
  so : ls.Pairwise (fun x y => x ≤ y)
  nd : ls.Nodup
  all : A = true ↔ d.all
  no : A = true → ls = []
  mem : A = false → ∀ s, s ∈ ls ↔ d.mem s
/-- the document's set in memory -/
def RD (w : World) (v : Value) (d : DS) : Prop := ∃ a c A ls, v = .agg #[.slice a ls.length c, .bool A] ∧ RS w a c A ls d
theorem RS.kept {w w' : World} {a : Option Addr} {c : Nat} {A : Bool} {ls : List Str} {d : DS} (h : RS w a c A ls d) (k : Grew w w') : RS w' a c A ls d :=
  ⟨h.nm.grew k, h.so, h.nd, h.all, h.no, h.mem⟩
theorem RD.grew {w w' : World} {v : Value} {d : DS} (h : RD w v d) (k : Grew w w') : RD w' v d := by
  obtain ⟨a, c, A, ls, e, h⟩ := h
  exact ⟨a, c, A, ls, e, h.kept k⟩
theorem RS.as {w : World} {a : Option Addr} {c : Nat} {A : Bool} {ls : List Str} {d e : DS} (h : RS w a c A ls d) (k : d.eqv e) : RS w a c A ls e :=
  ⟨h.nm, h.so, h.nd, h.all.trans k.1, h.no, fun q s => (h.mem q s).trans (k.2 (fun z => by rw [h.all.2 z] at q; cases q) s)⟩
theorem RD.as {w : World} {v : Value} {d e : DS} (h : RD w v d) (k : d.eqv e) : RD w v e := by
  obtain ⟨a, c, A, ls, e, h⟩ := h
  exact ⟨a, c, A, ls, e, h.as k⟩
theorem RD.shape {w : World} {v : Value} {d : DS} (h : RD w v d) : ∃ a n c A, v = .agg #[.slice a n c, .bool A] := by
  obtain ⟨a, c, A, ls, e, h⟩ := h
  exact ⟨a, _, c, A, e⟩
theorem Nm.nil (w : World) (D : Nat → Prop) : Nm w D (.slice none 0 0) [] := ⟨_, _, rfl, Nat.le_refl _, by simp [maxLen], .inl rfl⟩
theorem RS.empty (w : World) : RS w none 0 false [] DS.no := ⟨Nm.nil _ _, by simp, by simp, by simp [DS.no], by simp, by simp [DS.no]⟩
theorem RS.ev (w : World) : RS w none 0 true [] DS.ev := ⟨Nm.nil _ _, by simp, by simp, by simp [DS.ev], by simp, by simp⟩
/-- what it has is among these -/
def Ins (U : List Str) (d : DS) : Prop := ¬ d.all → ∀ s, d.mem s → s ∈ U
theorem Ins.un {U : List Str} {d e : DS} (h : Ins U d) (k : Ins U e) : Ins U (d.un e) := fun hn s q => q.elim (h (fun z => hn (.inl z)) s) (k (fun z => hn (.inr z)) s)
theorem Ins.len {U : List Str} {w : World} {a : Option Addr} {c : Nat} {A : Bool} {ls : List Str} {d : DS} (h : RS w a c A ls d) (k : Ins U d) : ls.length ≤ U.length := by
  cases A
  · exact nodup_len h.nd (fun s hs => k (fun z => by have := h.all.2 z; cases this) s ((h.mem rfl s).1 hs))
  · rw [h.no rfl]; simp

/-- what the document's demands answers -/
def DrPost (w : World) (d : DS) (e : Ending) (w' : World) : Prop := ∃ r, e = .returned r ∧ RD w' r d ∧ Grew w w'

theorem Try.s89 : (Try.prog.info? 89).map (·.size) = some 2 := by kernel_rfl
theorem res89 {fn : Func} {p : Tmp} (h : fn.results = #[.cell p 89]) (tmps : Array Value) (w : World) (g : Nat) {t : TypeId} {u0 u1 : Value} {fr : Nat × Nat} (hp : tmps.getD p undef = .pointer (some ⟨g, 0, none⟩)) (hg : w.heap[g]? = some (.cells #[u0, u1] t fr)) :
    (results fn tmps).run Try.prog w = .ok (.agg #[u0, u1]) w := by
  exact results_cell_row h tmps w g t _ fr _ hp hg Try.underlying89 rfl Try.s89
theorem set2_heap89 {w : World} {b : Nat} {x y : Value} {T : TypeId} (h : w.heap[b]? = some (.cells #[x, y] T (0, 0))) (u v : Value) : (set2 w b u v).heap[b]? = some (.cells #[u, v] T (0, 0)) := set2_heap h u v
theorem set1_heap {w : World} {b : Nat} {x y : Value} {T : TypeId} (h : w.heap[b]? = some (.cells #[x, y] T (0, 0))) (u : Value) : (w.setCell ⟨b, 0, none⟩ u).heap[b]? = some (.cells #[u, y] T (0, 0)) := by
  simp [World.setCell, Array.getElem?_modify, h]
theorem heap_a33 (w : World) (a b c : Obj) : (((w.alloc a).alloc b).alloc c).heap[w.heap.size + 1 + 1]? = some c := by
  have := heap_alloc_new ((w.alloc a).alloc b) c
  simpa using this

/-- a struct of a row and a truth is no row of texts -/
theorem nm_set {w w' : World} {D : Nat → Prop} {v : Value} {l : List Str} {b n c : Nat} {a : Option Addr} {A : Bool} {T : TypeId} (h : Nm w D v l) (hb : w.heap[b]? = some (.cells #[.slice a n c, .bool A] T (0, 0))) (k : Fr (fun k => k = b) w w') : Nm w' D v l := by
  obtain ⟨ad, cap, h1, h2, h3, h4⟩ := h
  refine ⟨ad, cap, h1, h2, h3, ?_⟩
  by_cases hl : l = []
  · exact .inl hl
  obtain ⟨g, o, h5, h6, h7⟩ := h4.resolve_left hl
  refine .inr ⟨g, o, h5, h6, fun i hi => k.cell (h7 i hi) (fun e => ?_)⟩
  have h8 := h7 i hi
  simp only at e
  subst e
  rw [cell_of_get hb] at h8
  rcases Nat.lt_or_ge (o + i) 2 with q | q
  · rcases (show o + i = 0 ∨ o + i = 1 by omega) with z | z <;> rw [z] at h8 <;> simp at h8
  · rw [Array.getElem?_eq_none (by simpa using q)] at h8; cases h8
theorem RS.set {w w' : World} {a b : Option Addr} {c : Nat} {A B : Bool} {ls : List Str} {d : DS} {g n c' : Nat} {T : TypeId} (h : RS w a c A ls d) (hb : w.heap[g]? = some (.cells #[.slice b n c', .bool B] T (0, 0))) (k : Fr (fun k => k = g) w w') : RS w' a c A ls d :=
  ⟨nm_set h.nm hb k, h.so, h.nd, h.all, h.no, h.mem⟩

/-- a row with one name more, in order -/
def FW (l : List Str) (s : Str) (v : Value) (w : World) : Prop := ∃ m, Nm w (fun _ => False) v m ∧ m.Pairwise (fun x y => x ≤ y) ∧ m.Nodup ∧ ∀ y, y ∈ m ↔ y ∈ l ∨ y = s
theorem FW.stays (l : List Str) (s : Str) (v : Value) (w w' : World) (h : Grew w w') (k : FW l s v w) : FW l s v w' := by
  obtain ⟨m, h1, h2⟩ := k
  exact ⟨m, h1.grew h, h2⟩

set_option maxHeartbeats 8000000 in
set_option maxRecDepth 100000 in
/-- both -/
theorem rboth_any {w : World} {va vb : Value} {d e : DS} (ha : RD w va d) (hb : RD w vb e) {U : List Str} (hd : Ins U d) (he : Ins U e) (hU : U.length ≤ 400000) : Calls Try.prog 76 #[va, vb] w (DrPost w (d.un e)) := by
  obtain ⟨a, c, A, ls, rfl, ha⟩ := ha
  obtain ⟨b, cb, A', ms, rfl, hb⟩ := hb
  have hla := hd.len ha
  obtain ⟨W3, hW3⟩ : ∃ q : World, q = ((w.alloc (.cells #[.slice a ls.length c, .bool A] 89)).alloc (.cells #[.slice b ms.length cb, .bool A'] 89)).alloc (.cells #[.slice none 0 0, .bool false] 89) := ⟨_, rfl⟩
  have g3 : Grew w W3 := by rw [hW3]; exact (((Fr.refl _ _).alloc _).alloc _).alloc _
  have hba : W3.heap[w.heap.size]? = some (.cells #[.slice a ls.length c, .bool A] 89 (0, 0)) := by rw [hW3]; exact (((Fr.refl (fun _ => False) _).alloc _).alloc _).get (heap_alloc_new w _) (fun f => f)
  have hbb : W3.heap[w.heap.size + 1]? = some (.cells #[.slice b ms.length cb, .bool A'] 89 (0, 0)) := by rw [hW3]; exact ((Fr.refl (fun _ => False) _).alloc _).get (heap_a2 w _ _) (fun f => f)
  have hbr : W3.heap[w.heap.size + 1 + 1]? = some (.cells #[.slice none 0 0, .bool false] 89 (0, 0)) := by rw [hW3]; exact heap_a33 _ _ _ _
  have HG3 := hid g3
  have HBA := hid hba
  have HBB := hid hbb
  have HBR := hid hbr
  have HA := hid (ha.kept g3)
  have HB := hid (hb.kept g3)
  have HBM := hid ((hb.nm.mono (E := fun k => w.heap.size ≤ k) (fun b hb q => by omega)).grew g3)
  have HD := hid hd
  have HE := hid he
  have a0 := cell_of_get hba 0
  have a1 := cell_of_get hba 1
  have b0 := cell_of_get hbb 0
  have b1 := cell_of_get hbb 1
  obtain ⟨r0, r1⟩ := And.intro (cell_of_get hbr 0) (cell_of_get hbr 1)
  obtain ⟨x0, x1⟩ := And.intro (frozen_of_get hbr 0) (frozen_of_get hbr 1)
  have hcap := HA.out.nm.shape
  have hcapb := HB.out.nm.shape
  clear ha hb g3 hba hbb hbr hd he
  go_enter Try.func76, Try.ntmps76
  go_upto_region 1 with (fail)
  rw [← hW3]
  clear hW3
  by_cases hAA : A = true ∨ A' = true
  · have HU := hid (show (d.un e).all from hAA.elim (fun q => .inl (HA.out.all.1 q)) (fun q => .inr (HB.out.all.1 q)))
    have hf2 := set2_fr W3 (w.heap.size + 1 + 1) (.slice none 0 0) (.bool true)
    have HF2 := hid hf2
    clear hcap hcapb
    cases A <;> cases A' <;> first | (exfalso; revert hAA; decide) | (clear hAA; go_wp2; exact bodyPost_ret (v := .agg #[.slice none 0 0, .bool true]) (res89 Try.results76 _ _ (w.heap.size + 1 + 1) rfl (set2_heap HBR.out _ _)) rfl ⟨_, rfl, ⟨none, 0, true, [], rfl, (RS.ev _).as ⟨⟨fun _ => HU.out, fun _ => trivial⟩, fun q => absurd trivial q⟩⟩, HG3.out.trans HF2.out (fun c hc e => by omega)⟩)
  · obtain ⟨rfl, rfl⟩ : A = false ∧ A' = false := by cases A <;> cases A' <;> simp_all
    have hnd : ¬ d.all := fun q => by have := HA.out.all.2 q; cases this
    have hne : ¬ e.all := fun q => by have := HB.out.all.2 q; cases this
    clear hAA
    clear r0 r1 x0 x1
    obtain ⟨_, _, ea, hca, hca'⟩ := hcap
    simp only [Value.slice.injEq] at ea
    obtain ⟨-, -, rfl⟩ := ea
    obtain ⟨_, _, eb, hcb, hcb'⟩ := hcapb
    simp only [Value.slice.injEq] at eb
    obtain ⟨-, -, rfl⟩ := eb
    replace hca' : c ≤ 9223372036854775807 := hca'
    replace hcb' : cb ≤ 9223372036854775807 := hcb'
    have HND := hid hnd
    have HNE := hid hne
    clear hnd hne
    go_wp2
    clear a0 a1 b0 b1
    go_loopw [5] (fun iv wr => ∃ (j : Nat) (ml : List Str) (aO : Option Addr) (cO : Nat), j ≤ ms.length ∧ iv = .int .i64 j ∧ wr.heap[w.heap.size]? = some (.cells #[.slice aO ml.length cO, .bool false] 89 (0, 0)) ∧ Nm wr (fun _ => False) (.slice aO ml.length cO) ml ∧ ml.Pairwise (fun x y => x ≤ y) ∧ ml.Nodup ∧ (∀ y, y ∈ ml ↔ y ∈ ls ∨ y ∈ ms.take j) ∧ Fr (fun k => k = w.heap.size) W3 wr) (fun i _ => ms.length - (intOf i).toNat)
    case atStart => exact ⟨0, ls, a, c, Nat.zero_le _, rfl, HBA.out, HA.out.nm, HA.out.so, HA.out.nd, fun y => by simp, Fr.refl _ _⟩
    case round =>
      obtain ⟨j, ml, aO, cO, hj, rfl, hbo, hnm, hso, hnd, hme, hfr⟩ := hrel
      have hbb := hfr.get HBB.out (by omega)
      have b0 := cell_of_get hbb 0
      have HBO := hid hbo
      have HNM := hid hnm
      have HSO := hid hso
      have HNDm := hid hnd
      have HME := hid hme
      have HFR := hid hfr
      by_cases hlt : j < ms.length
      · obtain ⟨s, hs⟩ := at_of_lt hlt
        obtain ⟨g, o, c3, eg, -, -, hgl, hel⟩ := HBM.out.row (fun e => by rw [e] at hlt; simp at hlt)
        simp only [Value.slice.injEq] at eg
        obtain ⟨rfl, -, rfl⟩ := eg
        have hml : ml.length ≤ 400000 := by
          have h1 := nodup_len hnd (m := U) (fun y hy => by
            rcases (hme y).1 hy with q | q
            · exact HD.out HND.out y ((HA.out.mem rfl y).1 q)
            · exact HE.out HNE.out y ((HB.out.mem rfl y).1 (List.mem_of_mem_take q)))
          omega
        have hg13 : ¬ g = w.heap.size := fun e => hgl (by omega)
        have HCS := hid (hfr.cell (hel j s hs) hg13)
        have HB0 := hid b0
        have HO0 := hid (cell_of_get hbo 0)
        have HTS := hid (fun y => mem_take_succ (y := y) hs)
        have HML := hid hml
        clear hel hbb hbo hnm hso hnd hme hfr hml
        go_upto_region 6 with (fail)
        clear b0
        refine Rg.wp_region_facts 9 Grew [(20, Rg.Ex (.pointer (some ⟨w.heap.size, 0, none⟩))), (21, Rg.Ex (.slice aO ml.length cO)), (22, Rg.Ex (.pointer (some ⟨w.heap.size + 1, 0, none⟩))), (23, Rg.Ex (.slice (some ⟨g, o, none⟩) ms.length cb)), (24, Rg.Ex (.int .i64 (j : Int))), (25, Rg.Ex (.pointer (some ⟨g, o + j, none⟩))), (26, Rg.Ex (St s)), (27, FW ml s), (28, Rg.Ex (.pointer (some ⟨w.heap.size, 0, none⟩)))] (by kernel_rfl) (by kernel_rfl) (by rfl) (by rfl)
          (fun a => Fr.refl _ a) (fun a b c h k => h.trans k (fun _ _ f => f)) (Fr.refl _ _).drew
          (Rg.Stays.all ⟨Rg.Ex.stays _, Rg.Ex.stays _, Rg.Ex.stays _, Rg.Ex.stays _, Rg.Ex.stays _, Rg.Ex.stays _, Rg.Ex.stays _, FW.stays _ _, Rg.Ex.stays _, trivial⟩) ?_ ?_
        · go_light
          refine Rg.OpGoals.cons (Rg.OpGoal.plain rfl ?_) (Rg.OpGoals.cons (Rg.OpGoal.plain rfl ?_) (Rg.OpGoals.cons (Rg.OpGoal.plain rfl ?_) (Rg.OpGoals.cons (Rg.OpGoal.plain rfl ?_) (Rg.OpGoals.cons (Rg.OpGoal.plain rfl ?_) (Rg.OpGoals.cons (Rg.OpGoal.plain rfl ?_) (Rg.OpGoals.cons (Rg.OpGoal.plain rfl ?_) (Rg.OpGoals.cons (Rg.OpGoal.plain rfl ?_) (Rg.OpGoals.cons (Rg.OpGoal.plain rfl ?_) Rg.OpGoals.none))))))))
          all_goals (intro a' w' hS hR; simp [Rg.Rd, Op.operands, Call.operands, Rg.Fk, Rg.Ex] at hR)
          all_goals (have o0' := hS.cell HO0.out (fun f => f))
          all_goals (have b0' := hS.cell HB0.out (fun f => f))
          all_goals (have cs' := hS.cell HCS.out (fun f => f))
          all_goals try (simp [Rg.Yields, execOp, Act.eval, hR, o0', b0', cs', hlt, go_sem, Rg.Fk, Rg.Ex, Fr.refl]; done)
          · simp [Rg.Yields, Act.eval, hR, go_sem, Rg.Fk, Rg.Ex]
            refine (with_any (HNM.out.grew hS) s HSO.out HNDm.out HML.out w' (Fr.refl _ _)).mono ?_
            rintro e w2 ⟨v', m, rfl, h1, h2, h3, h4, -, h5⟩
            exact ⟨v', rfl, ⟨m, h1, h2, h3, h4⟩, h5⟩
        · intro w5 hS
          rintro _ rfl _ rfl _ rfl _ rfl _ rfl _ rfl _ rfl v27 h27 _ rfl
          refine Rg.Then.nil ?_
          obtain ⟨m, hm1, hm2, hm3, hm4⟩ := h27
          obtain ⟨a3, c3, rfl, -⟩ := hm1.shape
          have hq := hS.get HBO.out (fun f => f)
          obtain ⟨k0, k1⟩ := And.intro (cell_of_get hq 0) (cell_of_get hq 1)
          obtain ⟨f0, f1⟩ := And.intro (frozen_of_get hq 0) (frozen_of_get hq 1)
          have HQ := hid (set1_heap hq (.slice a3 m.length c3))
          have hset : Fr (fun k => k = w.heap.size) w5 (w5.setCell ⟨w.heap.size, 0, none⟩ (.slice a3 m.length c3)) := (Fr.refl (fun k => k = w.heap.size) _).setCell (p := ⟨w.heap.size, 0, none⟩) (fun _ => rfl) _
          have hmg := nm_set hm1 hq hset
          have HM1 := hid hmg
          have HM2 := hid hm2
          have HM3 := hid hm3
          have HM4 := hid hm4
          have HFR6 := hid ((HFR.out.trans (Grew.any hS) (fun _ _ e => e)).trans hset (fun _ _ e => e))
          clear hm1 hm2 hm3 hm4 hq hset hmg hS
          go_wp2
          go_roundw
          case rel => exact ⟨j + 1, m, a3, c3, by omega, by go_num, HQ.out, HM1.out, HM2.out, HM3.out, fun y => by rw [HM4.out y, HME.out y, HTS.out y, or_assoc], HFR6.out⟩
          case measure => simp [intOf]; omega
      · obtain rfl : j = ms.length := by omega
        rw [List.take_length] at hme
        obtain ⟨o0, o1⟩ := And.intro (cell_of_get hbo 0) (cell_of_get hbo 1)
        have hr := hfr.get HBR.out (by omega)
        obtain ⟨r0, r1⟩ := And.intro (cell_of_get hr 0) (cell_of_get hr 1)
        obtain ⟨x0, x1⟩ := And.intro (frozen_of_get hr 0) (frozen_of_get hr 1)
        have HR := hid hr
        clear hbb hbo hnm hso hnd hfr hr
        go_wp2
        have hf2 := set2_fr wr (w.heap.size + 1 + 1) (.slice aO ml.length cO) (.bool false)
        exact bodyPost_ret (v := .agg #[.slice aO ml.length cO, .bool false]) (res89 Try.results76 _ _ (w.heap.size + 1 + 1) rfl (set2_heap HR.out _ _)) rfl ⟨_, rfl, ⟨aO, cO, false, ml, rfl, ⟨nm_set HNM.out HR.out hf2, HSO.out, HNDm.out, ⟨fun q => (by cases q), fun q => absurd q (fun z => z.elim HND.out HNE.out)⟩, fun q => (by cases q), fun _ y => by
          rw [HME.out y, List.take_length, HA.out.mem rfl y, HB.out.mem rfl y]; rfl⟩⟩, (HG3.out.trans HFR.out (fun c hc e => by omega)).trans hf2 (fun c hc e => by omega)⟩

/-- those of l that are among m -/
def fl (l m : List Str) : List Str := l.filter (fun s => decide (s ∈ m))
theorem fl_take {l m : List Str} {i : Nat} {x : Str} (hx : l[i]? = some x) : fl (l.take (i + 1)) m = fl (l.take i) m ++ (if x ∈ m then [x] else []) := by
  unfold fl
  rw [List.take_add_one, hx, List.filter_append]
  by_cases h : x ∈ m <;> simp [h]
theorem fl_len (l m : List Str) : (fl l m).length ≤ l.length := List.length_filter_le _ _

set_option maxHeartbeats 8000000 in
set_option maxRecDepth 100000 in
/-- each -/
theorem reach_any {w : World} {va vb : Value} {d e : DS} (ha : RD w va d) (hb : RD w vb e) {U : List Str} (hd : Ins U d) (hU : U.length ≤ 400000) : Calls Try.prog 77 #[va, vb] w (DrPost w (d.mt e)) := by
  obtain ⟨a, c, A, ls, rfl, ha⟩ := ha
  obtain ⟨b, cb, A', ms, rfl, hb⟩ := hb
  have hla := hd.len ha
  obtain ⟨W3, hW3⟩ : ∃ q : World, q = ((w.alloc (.cells #[.slice a ls.length c, .bool A] 89)).alloc (.cells #[.slice b ms.length cb, .bool A'] 89)).alloc (.cells #[.slice none 0 0, .bool false] 89) := ⟨_, rfl⟩
  have g3 : Grew w W3 := by rw [hW3]; exact (((Fr.refl _ _).alloc _).alloc _).alloc _
  have hba : W3.heap[w.heap.size]? = some (.cells #[.slice a ls.length c, .bool A] 89 (0, 0)) := by rw [hW3]; exact (((Fr.refl (fun _ => False) _).alloc _).alloc _).get (heap_alloc_new w _) (fun f => f)
  have hbb : W3.heap[w.heap.size + 1]? = some (.cells #[.slice b ms.length cb, .bool A'] 89 (0, 0)) := by rw [hW3]; exact ((Fr.refl (fun _ => False) _).alloc _).get (heap_a2 w _ _) (fun f => f)
  have hbr : W3.heap[w.heap.size + 1 + 1]? = some (.cells #[.slice none 0 0, .bool false] 89 (0, 0)) := by rw [hW3]; exact heap_a33 _ _ _ _
  have hs3 : W3.heap.size = w.heap.size + 3 := by rw [hW3]; simp
  have HG3 := hid g3
  have HBA := hid hba
  have HBB := hid hbb
  have HBR := hid hbr
  have HA := hid (ha.kept g3)
  have HB := hid (hb.kept g3)
  have a0 := cell_of_get hba 0
  have a1 := cell_of_get hba 1
  have b0 := cell_of_get hbb 0
  have b1 := cell_of_get hbb 1
  obtain ⟨r0, r1⟩ := And.intro (cell_of_get hbr 0) (cell_of_get hbr 1)
  obtain ⟨x0, x1⟩ := And.intro (frozen_of_get hbr 0) (frozen_of_get hbr 1)
  have hcap := HA.out.nm.shape
  have hcapb := HB.out.nm.shape
  clear ha hb g3 hba hbb hbr hd
  go_enter Try.func77, Try.ntmps77
  go_upto_region 1 with (fail)
  rw [← hW3]
  clear hW3
  have HS3 := hid hs3
  clear hs3
  cases A
  case true =>
    have hE : e.eqv (d.mt e) := ⟨⟨fun q => ⟨HA.out.all.1 rfl, q⟩, fun q => q.2⟩, fun q s => ⟨fun z => ⟨.inl (HA.out.all.1 rfl), .inr z⟩, fun z => z.2.resolve_left q⟩⟩
    have hf2 := set2_fr W3 (w.heap.size + 1 + 1) (.slice b ms.length cb) (.bool A')
    have HF2 := hid hf2
    have HE := hid hE
    clear hcap hcapb
    go_wp2
    exact bodyPost_ret (v := .agg #[.slice b ms.length cb, .bool A']) (res89 Try.results77 _ _ (w.heap.size + 1 + 1) rfl (set2_heap HBR.out _ _)) rfl ⟨_, rfl, ⟨b, cb, A', ms, rfl, (HB.out.set HBR.out HF2.out).as HE.out⟩, HG3.out.trans HF2.out (fun c hc e => by omega)⟩
  cases A'
  case true =>
    have hE : d.eqv (d.mt e) := ⟨⟨fun q => ⟨q, HB.out.all.1 rfl⟩, fun q => q.1⟩, fun q s => ⟨fun z => ⟨.inr z, .inl (HB.out.all.1 rfl)⟩, fun z => z.1.resolve_left q⟩⟩
    have hf2 := set2_fr W3 (w.heap.size + 1 + 1) (.slice a ls.length c) (.bool false)
    have HF2 := hid hf2
    have HE := hid hE
    clear hcap hcapb
    go_wp2
    exact bodyPost_ret (v := .agg #[.slice a ls.length c, .bool false]) (res89 Try.results77 _ _ (w.heap.size + 1 + 1) rfl (set2_heap HBR.out _ _)) rfl ⟨_, rfl, ⟨a, c, false, ls, rfl, (HA.out.set HBR.out HF2.out).as HE.out⟩, HG3.out.trans HF2.out (fun c hc e => by omega)⟩
  have hnd : ¬ d.all := fun q => by have := HA.out.all.2 q; cases this
  have hne : ¬ e.all := fun q => by have := HB.out.all.2 q; cases this
  clear r0 r1 x0 x1
  obtain ⟨_, _, ea, hca, hca'⟩ := hcap
  simp only [Value.slice.injEq] at ea
  obtain ⟨-, -, rfl⟩ := ea
  obtain ⟨_, _, eb, hcb, hcb'⟩ := hcapb
  simp only [Value.slice.injEq] at eb
  obtain ⟨-, -, rfl⟩ := eb
  replace hca' : c ≤ 9223372036854775807 := hca'
  replace hcb' : cb ≤ 9223372036854775807 := hcb'
  have HND := hid hnd
  have HNE := hid hne
  clear hnd hne
  obtain ⟨W4, hW4⟩ : ∃ q : World, q = W3.alloc (.cells #[.slice none 0 0, .bool false] 89) := ⟨_, rfl⟩
  have g34 : Grew W3 W4 := by rw [hW4]; exact (Fr.refl _ _).alloc _
  have hbo : W4.heap[W3.heap.size]? = some (.cells #[.slice none 0 0, .bool false] 89 (0, 0)) := by rw [hW4]; exact heap_alloc_new W3 _
  have hs4 : W4.heap.size = W3.heap.size + 1 := by rw [hW4]; simp
  have HBO4 := hid hbo
  have HS4 := hid hs4
  have HG34 := hid g34
  clear hbo hs4 g34
  go_upto_region 6 with (fail)
  rw [← hW4]
  clear hW4
  go_wp2
  clear a0 a1 b0 b1
  go_loopw [6] (fun iv wr => ∃ (j : Nat) (aO : Option Addr) (mO cO : Nat), j ≤ ls.length ∧ iv = .int .i64 j ∧ wr.heap[W3.heap.size]? = some (.cells #[.slice aO mO cO, .bool false] 89 (0, 0)) ∧ Rt W4.heap.size wr (.slice aO mO cO) (fl (ls.take j) ms) ∧ Fr (fun k => k = W3.heap.size) W4 wr) (fun i _ => ls.length - (intOf i).toNat)
  case atStart => exact ⟨0, none, 0, 0, Nat.zero_le _, rfl, HBO4.out, World.ownsRow_nil _ _ _ _, Fr.refl _ _⟩
  case round =>
    obtain ⟨j, aO, mO, cO, hj, rfl, hbo, hrt, hfr⟩ := hrel
    have hs3 := HS3.out
    have hs4 := HS4.out
    have hfr3 : Fr (fun k => k = W3.heap.size) W3 wr := (Grew.any HG34.out).trans hfr (fun _ _ e => e)
    have hba := hfr3.get HBA.out (by omega)
    have a0 := cell_of_get hba 0
    have HBO := hid hbo
    have HRT := hid hrt
    have HFR := hid hfr
    have HFR3 := hid hfr3
    by_cases hlt : j < ls.length
    · obtain ⟨s, hs⟩ := at_of_lt hlt
      obtain ⟨g, o, c3, eg, -, -, -, hel⟩ := HA.out.nm.row (fun e => by rw [e] at hlt; simp at hlt)
      simp only [Value.slice.injEq] at eg
      obtain ⟨rfl, -, rfl⟩ := eg
      have hg3 : g < W3.heap.size := World.block_lt_of_cell? W3 _ (hel j s hs)
      have hbb := hfr3.get HBB.out (by omega)
      have HB0 := hid (cell_of_get hbb 0)
      have HA0 := hid a0
      have HCS := hid (hfr3.cell (hel j s hs) (by show ¬ g = W3.heap.size; omega))
      have HO0 := hid (cell_of_get hbo 0)
      have HNB := hid (HB.out.nm.grew (hfr3.mono (fun i hi (e : i = W3.heap.size) => by omega)))
      have HFT := hid (fl_take (m := ms) hs)
      have HLF := hid (show (fl (ls.take j) ms).length ≤ 900000 from by have := fl_len (ls.take j) ms; simp at this; omega)
      have HBL := hid (show W4.heap.size ≤ wr.heap.size from hfr.size)
      have HG3L := hid hg3
      clear hel hbb hbo hrt hfr hfr3 hba hg3 hs3 hs4
      go_upto_region 9 with (fail)
      clear a0
      by_cases hmem : s ∈ ms
      · have HMEM := hid (decide_eq_true hmem)
        refine Rg.wp_region_facts 8 Grew [(20, Rg.Ex (.pointer (some ⟨w.heap.size + 1, 0, none⟩))), (21, Rg.Ex (.slice b ms.length cb)), (22, Rg.Ex (.pointer (some ⟨w.heap.size, 0, none⟩))), (23, Rg.Ex (.slice (some ⟨g, o, none⟩) ls.length c)), (24, Rg.Ex (.int .i64 (j : Int))), (25, Rg.Ex (.pointer (some ⟨g, o + j, none⟩))), (26, Rg.Ex (St s)), (27, Rg.Ex (.bool true))] (by kernel_rfl) (by kernel_rfl) (by rfl) (by rfl)
          (fun a => Fr.refl _ a) (fun a b c h k => h.trans k (fun _ _ f => f)) (Fr.refl _ _).drew
          (Rg.Stays.all ⟨Rg.Ex.stays _, Rg.Ex.stays _, Rg.Ex.stays _, Rg.Ex.stays _, Rg.Ex.stays _, Rg.Ex.stays _, Rg.Ex.stays _, Rg.Ex.stays _, trivial⟩) ?_ ?_
        · go_light
          refine Rg.OpGoals.cons (Rg.OpGoal.plain rfl ?_) (Rg.OpGoals.cons (Rg.OpGoal.plain rfl ?_) (Rg.OpGoals.cons (Rg.OpGoal.plain rfl ?_) (Rg.OpGoals.cons (Rg.OpGoal.plain rfl ?_) (Rg.OpGoals.cons (Rg.OpGoal.plain rfl ?_) (Rg.OpGoals.cons (Rg.OpGoal.plain rfl ?_) (Rg.OpGoals.cons (Rg.OpGoal.plain rfl ?_) (Rg.OpGoals.cons (Rg.OpGoal.plain rfl ?_) Rg.OpGoals.none)))))))
          all_goals (intro a' w' hS hR; simp [Rg.Rd, Op.operands, Call.operands, Rg.Fk, Rg.Ex] at hR)
          all_goals (have a0' := hS.cell HA0.out (fun f => f))
          all_goals (have b0' := hS.cell HB0.out (fun f => f))
          all_goals (have cs' := hS.cell HCS.out (fun f => f))
          all_goals try (simp [Rg.Yields, execOp, Act.eval, hR, a0', b0', cs', hlt, go_sem, Rg.Fk, Rg.Ex, Fr.refl]; done)
          · simp [Rg.Yields, Act.eval, hR, go_sem, Rg.Fk, Rg.Ex]
            refine (in_any (HNB.out.grew hS) s).mono ?_
            rintro e w2 ⟨rfl, rfl⟩
            exact ⟨_, rfl, by rw [HMEM.out], Fr.refl _ _⟩
        · intro w5 hS
          rintro _ rfl _ rfl _ rfl _ rfl _ rfl _ rfl _ rfl _ rfl
          refine Rg.Then.nil ?_
          have HS := hid hS
          have hsq : W4.heap.size ≤ w5.heap.size := by have := hS.size; have := HBL.out; omega
          have HRT5 := hid (rt_kept HRT.out hS (fun _ _ f => f))
          have HO5 := hid (hS.cell HO0.out (fun f => f))
          have HA5 := hid (hS.cell HA0.out (fun f => f))
          have HC5 := hid (hS.cell HCS.out (fun f => f))
          have HOWN := hid (show ∀ k, k < W4.heap.size → ¬ (Value.slice aO mO cO).ownBlock = some k from fun k hk e => by have := (HRT5.out.lt k e).1; omega)
          have HSQ := hid hsq
          clear hS hmem hsq
          go_upto_region 10 with (fail)
          refine Rg.wp_region_factsJ 10 (Ch (QA W4.heap.size w5 (.slice aO mO cO) (fl (ls.take j) ms) s) 39 [7, 8] [35, 36]) (Fr (fun k => (Value.slice aO mO cO).ownBlock = some k)) [(28, Rg.Ex (.pointer (some ⟨W3.heap.size, 0, none⟩))), (29, Rg.Ex (.slice aO mO cO)), (30, Rg.Ex (.pointer (some ⟨w.heap.size, 0, none⟩))), (31, Rg.Ex (.slice (some ⟨g, o, none⟩) ls.length c)), (32, Rg.Ex (.int .i64 (j : Int))), (33, Rg.Ex (.pointer (some ⟨g, o + j, none⟩))), (34, Rg.Ex (St s)), (35, FAny), (36, FAny), (37, Rg.Ex (.pointer (some ⟨W3.heap.size, 0, none⟩)))] (by kernel_rfl) (by kernel_rfl) (by rfl) (by rfl)
            (fun a => Fr.refl _ a) (fun a b c h k => h.trans k (fun _ _ f => f)) (Fr.refl _ _).drew
            (Rg.Stays.all ⟨Rg.Ex.stays _, Rg.Ex.stays _, Rg.Ex.stays _, Rg.Ex.stays _, Rg.Ex.stays _, Rg.Ex.stays _, Rg.Ex.stays _, (fun _ _ _ _ _ => trivial), (fun _ _ _ _ _ => trivial), Rg.Ex.stays _, trivial⟩) ?_ ?_ ?_
          · go_light
            refine Rg.OpGoalsJ.cons ⟨rfl, ?_⟩ (Rg.OpGoalsJ.cons ⟨rfl, ?_⟩ (Rg.OpGoalsJ.cons ⟨rfl, ?_⟩ (Rg.OpGoalsJ.cons ⟨rfl, ?_⟩ (Rg.OpGoalsJ.cons ⟨rfl, ?_⟩ (Rg.OpGoalsJ.cons ⟨rfl, ?_⟩ (Rg.OpGoalsJ.cons ⟨rfl, ?_⟩ (Rg.OpGoalsJ.cons ⟨rfl, ?_⟩ (Rg.OpGoalsJ.cons ⟨rfl, ?_⟩ (Rg.OpGoalsJ.cons ⟨rfl, ?_⟩ Rg.OpGoalsJ.none)))))))))
            all_goals (intro listed a' w' hmc hS hI hR; simp [Rg.Rd, Op.operands, Call.operands, Rg.Fk, Rg.Ex] at hR)
            all_goals (have hIo := fun i d v (h1 : i ∉ ([7, 8] : List Nat)) (h2 : d ∉ ([35, 36] : List Nat)) => hI.pure (i := i) (d := d) v h1 h2)
            all_goals (have o0' := hS.cell HO5.out (HOWN.out _ (by simp; have := HS4.out; omega)))
            all_goals (have a0' := hS.cell HA5.out (HOWN.out _ (by simp; have := HS4.out; have := HS3.out; omega)))
            all_goals (have cs' := hS.cell HC5.out (HOWN.out _ (by simp; have := HS4.out; have := HG3L.out; omega)))
            all_goals try (simp [Rg.Yields, execOp, Act.eval, hR, o0', a0', cs', hlt, go_sem, Rg.Fk, Rg.Ex, FAny, Fr.refl]; exact hIo _ _ _ (by decide) (by decide))
            · obtain ⟨hq, hcome⟩ := hI.come (j := 0) (p := 7) (d := 35) rfl rfl hmc.not (fun i q hi _ => absurd hi (Nat.not_lt_zero i)) rfl (by rw [hmc.size]; decide) (by decide) (by decide) (by decide)
              simp [Rg.Yields, execOp, Act.eval, hR, go_sem, Rg.Fk, Rg.Ex, FAny]
              exact ⟨Grew.any ((Fr.refl _ _).alloc _), hcome _ _ (QA.build hq)⟩
            · have l0 := hmc.own { on := 7, ground := .data } (by simp) rfl
              obtain ⟨hq, hcome⟩ := hI.come (j := 1) (p := 8) (d := 36) rfl rfl hmc.not (fun i q hi hq => by rcases (show i = 0 by omega) with rfl <;> (cases hq; first | exact l0)) rfl (by rw [hmc.size]; decide) (by decide) (by decide) (by decide)
              obtain ⟨v1, w6, hrun, h8, hf8⟩ := QA.app hq HRT5.out HSQ.out HLF.out 25
              refine Yields_app rfl ?_ rfl hrun ⟨fun d hd => by cases hd; simp [Rg.Fk, FAny], hf8, hcome _ _ h8⟩
              show a'.tmps.getD 29 undef = _
              rw [Array.getD_eq_getD_getElem?]; first | exact hR.1 | exact hR
          · refine Ch.none (by rfl) _ ?_
            exact (show Grew w5 w5.drew from (Fr.refl _ _).drew)
          · intro w7 hS7
            rintro _ rfl _ rfl _ rfl _ rfl _ rfl _ rfl _ rfl v35 _ v36 _ _ rfl hI
            have hsz := hI.sz
            have hall := hI.all rfl (by decide)
            simp only [List.map_cons, List.map_nil, List.length_cons, List.length_nil] at hall
            rw [Rg.put_getD_ne _ (by decide), Rg.put_getD_ne _ (by decide), Rg.put_getD_eq _ (by simp only [put_size'] at hsz ⊢; rw [hsz]; decide), Rg.put_getD_ne _ (by decide), Rg.put_getD_eq _ (by simp only [put_size'] at hsz ⊢; rw [hsz]; decide)] at hall
            clear hI hsz
            obtain ⟨h8, h9⟩ := hall
            obtain ⟨a8, m8, c8, rfl⟩ : ∃ a m c, v36 = .slice a m c := (by obtain ⟨a1, c1, e1, -⟩ := (nm_of_rt h8).shape; exact ⟨a1, _, c1, e1⟩)
            have hb7 := h9.get (HS.out.get HBO.out (fun f => f)) (HOWN.out _ (by have := HS4.out; omega))
            obtain ⟨k0, k1⟩ := And.intro (cell_of_get hb7 0) (cell_of_get hb7 1)
            obtain ⟨f0, f1⟩ := And.intro (frozen_of_get hb7 0) (frozen_of_get hb7 1)
            have hset : Fr (fun k => k = W3.heap.size) w7 (w7.setCell ⟨W3.heap.size, 0, none⟩ (.slice a8 m8 c8)) := (Fr.refl (fun k => k = W3.heap.size) _).setCell (p := ⟨W3.heap.size, 0, none⟩) (fun _ => rfl) _
            have HQ := hid (set1_heap hb7 (.slice a8 m8 c8))
            have HR8 := hid (show Rt W4.heap.size (w7.setCell ⟨W3.heap.size, 0, none⟩ (.slice a8 m8 c8)) (.slice a8 m8 c8) (fl (ls.take (j + 1)) ms) by
              rw [HFT.out, if_pos (of_decide_eq_true HMEM.out)]
              exact rt_kept h8 hset (fun g e f => by have := (h8.lt g e).1; have := HS4.out; omega))
            have HF8 := hid (show Fr (fun k => k = W3.heap.size) W4 (w7.setCell ⟨W3.heap.size, 0, none⟩ (.slice a8 m8 c8)) from (HFR.out.trans ((Grew.any HS.out).trans h9 (fun _ _ e => e)) (fun k hk e => absurd e (HOWN.out k hk))).trans hset (fun _ _ e => e))
            clear h8 h9 hb7 hset hS7
            go_wp2
            go_roundw
            case rel => exact ⟨j + 1, a8, m8, c8, by omega, by go_num, HQ.out, HR8.out, HF8.out⟩
            case measure => simp [intOf]; omega
      · have HMEM := hid (decide_eq_false hmem)
        refine Rg.wp_region_facts 8 Grew [(20, Rg.Ex (.pointer (some ⟨w.heap.size + 1, 0, none⟩))), (21, Rg.Ex (.slice b ms.length cb)), (22, Rg.Ex (.pointer (some ⟨w.heap.size, 0, none⟩))), (23, Rg.Ex (.slice (some ⟨g, o, none⟩) ls.length c)), (24, Rg.Ex (.int .i64 (j : Int))), (25, Rg.Ex (.pointer (some ⟨g, o + j, none⟩))), (26, Rg.Ex (St s)), (27, Rg.Ex (.bool false))] (by kernel_rfl) (by kernel_rfl) (by rfl) (by rfl)
          (fun a => Fr.refl _ a) (fun a b c h k => h.trans k (fun _ _ f => f)) (Fr.refl _ _).drew
          (Rg.Stays.all ⟨Rg.Ex.stays _, Rg.Ex.stays _, Rg.Ex.stays _, Rg.Ex.stays _, Rg.Ex.stays _, Rg.Ex.stays _, Rg.Ex.stays _, Rg.Ex.stays _, trivial⟩) ?_ ?_
        · go_light
          refine Rg.OpGoals.cons (Rg.OpGoal.plain rfl ?_) (Rg.OpGoals.cons (Rg.OpGoal.plain rfl ?_) (Rg.OpGoals.cons (Rg.OpGoal.plain rfl ?_) (Rg.OpGoals.cons (Rg.OpGoal.plain rfl ?_) (Rg.OpGoals.cons (Rg.OpGoal.plain rfl ?_) (Rg.OpGoals.cons (Rg.OpGoal.plain rfl ?_) (Rg.OpGoals.cons (Rg.OpGoal.plain rfl ?_) (Rg.OpGoals.cons (Rg.OpGoal.plain rfl ?_) Rg.OpGoals.none)))))))
          all_goals (intro a' w' hS hR; simp [Rg.Rd, Op.operands, Call.operands, Rg.Fk, Rg.Ex] at hR)
          all_goals (have a0' := hS.cell HA0.out (fun f => f))
          all_goals (have b0' := hS.cell HB0.out (fun f => f))
          all_goals (have cs' := hS.cell HCS.out (fun f => f))
          all_goals try (simp [Rg.Yields, execOp, Act.eval, hR, a0', b0', cs', hlt, go_sem, Rg.Fk, Rg.Ex, Fr.refl]; done)
          · simp [Rg.Yields, Act.eval, hR, go_sem, Rg.Fk, Rg.Ex]
            refine (in_any (HNB.out.grew hS) s).mono ?_
            rintro e w2 ⟨rfl, rfl⟩
            exact ⟨_, rfl, by rw [HMEM.out], Fr.refl _ _⟩
        · intro w5 hS
          rintro _ rfl _ rfl _ rfl _ rfl _ rfl _ rfl _ rfl _ rfl
          refine Rg.Then.nil ?_
          have HR8 := hid (show Rt W4.heap.size w5 (.slice aO mO cO) (fl (ls.take (j + 1)) ms) by
            rw [HFT.out, if_neg hmem, List.append_nil]
            exact rt_kept HRT.out hS (fun _ _ f => f))
          have HBO5 := hid (hS.get HBO.out (fun f => f))
          have HF5 := hid (HFR.out.trans (Grew.any hS) (fun _ _ e => e))
          clear hS hmem
          go_wp2
          go_roundw
          case rel => exact ⟨j + 1, aO, mO, cO, by omega, by go_num, HBO5.out, HR8.out, HF5.out⟩
          case measure => simp [intOf]; omega
    · obtain rfl : j = ls.length := by omega
      rw [List.take_length] at HRT
      obtain ⟨o0, o1⟩ := And.intro (cell_of_get hbo 0) (cell_of_get hbo 1)
      have hr := hfr3.get HBR.out (by omega)
      obtain ⟨r0, r1⟩ := And.intro (cell_of_get hr 0) (cell_of_get hr 1)
      obtain ⟨x0, x1⟩ := And.intro (frozen_of_get hr 0) (frozen_of_get hr 1)
      have HR := hid hr
      have hmO : mO = (fl ls ms).length := by
        obtain ⟨a1, c1, e1, -⟩ := (nm_of_rt HRT.out).shape
        simp only [Value.slice.injEq] at e1
        exact e1.2.1
      subst hmO
      clear hba hbo hrt hfr hfr3 hr hs3 hs4
      go_wp2
      have hf2 := set2_fr wr (w.heap.size + 1 + 1) (.slice aO (fl ls ms).length cO) (.bool false)
      refine bodyPost_ret (v := .agg #[.slice aO (fl ls ms).length cO, .bool false]) (res89 Try.results77 _ _ (w.heap.size + 1 + 1) rfl (set2_heap HR.out _ _)) rfl ?_
      exact ⟨_, rfl, ⟨aO, cO, false, fl ls ms, rfl, ⟨nm_set ((nm_of_rt HRT.out).mono (fun _ _ f => f.elim)) HR.out hf2, HA.out.so.sublist List.filter_sublist, HA.out.nd.sublist List.filter_sublist, ⟨fun q => (by cases q), fun q => absurd q.1 HND.out⟩, fun q => (by cases q), fun _ y => by
        show y ∈ List.filter _ _ ↔ (d.all ∨ d.mem y) ∧ (e.all ∨ e.mem y)
        rw [List.mem_filter, HA.out.mem rfl y]
        simp [HB.out.mem rfl y, HND.out, HNE.out]⟩⟩, (HG3.out.trans HFR3.out (fun c hc e => by have := HS3.out; omega)).trans hf2 (fun c hc e => by omega)⟩

end Go.Proofs.Ytddcfnjmppijjaa

/-! thunkref8.applied. -/
namespace Go.Proofs.Ytddcfnjmppijjaa
open Go.RowKit

mutual
/-- all texts of a term -/
def X.vs : X → List Str
  | .mk _ t _ a => t :: vss a
def vss : List X → List Str
  | [] => []
  | x :: r => x.vs ++ vss r
end
mutual
theorem vs_len : ∀ x : X, x.vs.length = x.size
  | .mk k t ns a => by
    have := vss_len a
    simp only [X.vs, X.size, List.length_cons]
    omega
theorem vss_len : ∀ l : List X, (vss l).length = sizes l
  | [] => rfl
  | x :: r => by
    have h1 := vs_len x
    have h2 := vss_len r
    simp only [vss, sizes, List.length_append]
    omega
end
theorem Ins.mono {U V : List Str} {d : DS} (h : Ins U d) (k : ∀ s ∈ U, s ∈ V) : Ins V d := fun hn s q => k s (h hn s q)
theorem Ins.no (U : List Str) : Ins U DS.no := fun _ _ q => q.elim
theorem Ins.mt {U : List Str} {d e : DS} (h : Ins U d) (k : Ins U e) : Ins U (d.mt e) := fun hn s q => by
  by_cases hd : d.all
  · have he : ¬ e.all := fun z => hn ⟨hd, z⟩
    exact k he s (q.2.resolve_left he)
  · exact h hd s (q.1.resolve_left hd)
theorem Ins.unl {U : List Str} {l : List DS} (h : ∀ d ∈ l, Ins U d) : Ins U (unl l) := by
  induction l with
  | nil => exact Ins.no U
  | cons d r ih => exact (h d (by simp)).un (ih (fun e he => h e (by simp [he])))
theorem pick_mem {bs : List Bool} {ds : List DS} {d : DS} (h : d ∈ pick bs ds) : d ∈ ds := by
  induction bs generalizing ds with
  | nil => cases ds <;> simp [pick] at h
  | cons b r ih =>
    cases ds with
    | nil => cases b <;> simp [pick] at h
    | cons e s =>
      cases b
      · exact List.mem_cons_of_mem _ (ih h)
      · rcases List.mem_cons.1 h with q | q
        · simp [q]
        · exact List.mem_cons_of_mem _ (ih q)
theorem Ins.letD {U : List Str} {d0 : DS} {ps : List (Str × DS)} (h : Ins U d0) (k : ∀ n d, (n, d) ∈ ps → Ins U d) : Ins U (letD d0 ps) := by
  intro hn s hs
  have hr : ∀ s, Rch d0 ps s → s ∈ U := by
    intro s hs
    induction hs with
    | base s q => exact h (fun z => hn (.inl z)) s q
    | step n s d hp hq q _ => exact k n d hp (fun z => hn (.inr ⟨n, d, hp, hq, z⟩)) s q
  exact hr s hs.1
theorem demF_ins {nl : Ned} {k : Int} {t : Str} {ns : List Str} {a : List X} {ds : List DS} {U : List Str} (ht : t ∈ U) (h : ∀ d ∈ ds, Ins U d) : Ins U (demF nl k t ns a ds) := by
  unfold demF
  split
  · intro _ s q
    have e : s = t := q
    rw [e]; exact ht
  · split
    · split
      · exact (h _ (by simp)).un ((h _ (by simp)).mt (h _ (by simp)))
      · exact Ins.no U
    · split
      · split
        · split
          · exact (h _ (by simp)).un (Ins.unl (fun d hd => h d (by simp [pick_mem hd])))
          · exact h _ (by simp)
        · exact Ins.no U
      · split
        · refine Ins.letD ?_ (fun n d hp => h d (List.of_mem_zip hp).2)
          cases hq : ds[ns.length]? with
          | none => exact Ins.no U
          | some d => exact h d (List.mem_of_getElem? hq)
        · split
          · split
            · intro hn; exact absurd trivial hn
            · split
              · exact Ins.no U
              · exact Ins.unl h
          · exact Ins.no U
mutual
theorem dem_ins (nl : Ned) : ∀ x : X, Ins x.vs (dem nl x)
  | .mk k t ns a => by
    simp only [dem, X.vs]
    exact demF_ins (by simp) (fun d hd => (dems_ins nl a d hd).mono (fun s hs => by simp [hs]))
theorem dems_ins (nl : Ned) : ∀ (a : List X), ∀ d ∈ dems nl a, Ins (vss a) d
  | [], d, h => by simp [dems] at h
  | x :: r, d, h => by
    simp only [dems, List.mem_cons] at h
    rcases h with q | q
    · subst q
      exact (dem_ins nl x).mono (fun s hs => by simp [vss, hs])
    · exact (dems_ins nl r d q).mono (fun s hs => by simp [vss, hs])
end

/-- .. of the parts -/
def DrAt (w : World) (D : Nat → Prop) (vL : Value) (nl : Ned) (av : Option Addr) (l : List X) : Prop :=
  l ≠ [] → ∃ g o, av = some ⟨g, o, none⟩ ∧ ∀ i x, l[i]? = some x → ∃ an cn aa ca, El w D g (o + i * 4) x an cn aa ca ∧ ∀ w', Grew w w' →
    Calls Try.prog 52 #[.agg #[Kv x.kind, St x.text, .slice an x.names.length cn, .slice aa x.parts.length ca], vL] w' (DrPost w' (dem nl x))
/-- a set that says this -/
def FR8 (d : DS) (v : Value) (w : World) : Prop := RD w v d
theorem FR8.stays (d : DS) (v : Value) (w w' : World) (h : Grew w w') (k : FR8 d v w) : FR8 d v w' := RD.grew k h

/-- what lies at a block of one's own is put there where the answer lies -/
theorem dr_done {w wr : World} {r : Nat} {x y : Value} {a : Option Addr} {c : Nat} {A : Bool} {ls : List Str} {d : DS} (h : RS wr a c A ls d) (hg : Grew w wr) (hr : ∃ b n c' B, x = .slice b n c' ∧ y = .bool B) (hb : wr.heap[r]? = some (.cells #[x, y] 89 (0, 0))) (hrw : w.heap.size ≤ r) :
    DrPost w d (.returned (.agg #[.slice a ls.length c, .bool A])) (set2 wr r (.slice a ls.length c) (.bool A)) := by
  obtain ⟨b, n, c', B, rfl, rfl⟩ := hr
  have hf2 := set2_fr wr r (.slice a ls.length c) (.bool A)
  exact ⟨_, rfl, ⟨a, c, A, ls, rfl, h.set hb hf2⟩, hg.trans hf2 (fun k hk e => by omega)⟩

set_option maxHeartbeats 8000000 in
set_option maxRecDepth 100000 in
/-- applied -/
theorem applied_core {w0 : World} {D : Nat → Prop} {aN : Option Addr} {cN : Nat} {nl : Ned} {av : Option Addr} {x0 : X} {r : List X} {cap : Nat} (H : DrAt w0 D (.slice aN nl.length cN) nl av (x0 :: r)) (hsz : sizes (x0 :: r) ≤ 400000) (hl : (x0 :: r).length ≤ 1000000) (hnd : Nd w0 (fun _ => False) (.slice aN nl.length cN) nl) (w : World) (hw : Grew w0 w) (k : Int) (t : Str) (vn : Value) :
    Calls Try.prog 75 #[.agg #[Kv k, St t, vn, .slice av (r.length + 1) cap], .slice aN nl.length cN] w (DrPost w (if (ofs nl x0.kind x0.text).length ≤ r.length then (dem nl x0).un (unl (pick (ofs nl x0.kind x0.text) (dems nl r))) else dem nl x0)) := by
  obtain ⟨dR, hdR⟩ : ∃ d, d = (if (ofs nl x0.kind x0.text).length ≤ r.length then (dem nl x0).un (unl (pick (ofs nl x0.kind x0.text) (dems nl r))) else dem nl x0) := ⟨_, rfl⟩
  rw [← hdR]
  have HDR := hid hdR
  clear hdR
  obtain ⟨g, o, rfl, hel⟩ := H (by simp)
  obtain ⟨W2, hW2⟩ : ∃ q : World, q = (w.alloc (.cells #[Kv k, St t, vn, .slice (some ⟨g, o, none⟩) (r.length + 1) cap] 28)).alloc (.cells #[.slice none 0 0, .bool false] 89) := ⟨_, rfl⟩
  have g2 : Grew w W2 := by rw [hW2]; exact ((Fr.refl _ _).alloc _).alloc _
  have hs2 : W2.heap.size = w.heap.size + 2 := by rw [hW2]; simp
  have hbe : W2.heap[w.heap.size]? = some (.cells #[Kv k, St t, vn, .slice (some ⟨g, o, none⟩) (r.length + 1) cap] 28 (0, 0)) := by rw [hW2]; exact ((Fr.refl (fun _ => False) _).alloc _).get (heap_alloc_new w _) (fun f => f)
  have hbr : W2.heap[w.heap.size + 1]? = some (.cells #[.slice none 0 0, .bool false] 89 (0, 0)) := by rw [hW2]; exact heap_a2 w _ _
  obtain ⟨an0, cn0, aa0, ca0, he0, hc0⟩ := hel 0 x0 rfl
  rw [Nat.zero_mul, Nat.add_zero] at he0
  have gw2 := hw.trans g2 (fun _ _ f => f)
  have e3 := (show W2.cell? ⟨w.heap.size, 3, none⟩ = some (.slice (some ⟨g, o, none⟩) (r.length + 1) cap) from cell_of_get hbe 3)
  have c0 := gw2.cell he0.c0 (fun f => f)
  have c1 := gw2.cell he0.c1 (fun f => f)
  have c2 := gw2.cell he0.c2 (fun f => f)
  have c3 := gw2.cell he0.c3 (fun f => f)
  have HCALL := hid (hc0 W2 gw2)
  have HU := hid (show ∀ x ∈ x0 :: r, Ins (vss (x0 :: r)) (dem nl x) from fun x hx => by
    obtain ⟨i, hi⟩ := List.mem_iff_getElem?.1 hx
    exact dems_ins nl _ _ (List.mem_of_getElem? (dems_get nl hi)))
  have HUL := hid (show (vss (x0 :: r)).length ≤ 400000 by rw [vss_len]; exact hsz)
  have HBE := hid hbe
  have HBR := hid hbr
  have HEL := hid hel
  have HEE := hid he0
  have HND := hid (hnd.mono (E := fun k => w0.heap.size ≤ k) (fun b hb e => by omega))
  have hrl : r.length ≤ 999999 := by simp at hl; omega
  have HGW2 := hid gw2
  have HG2 := hid g2
  have HS2 := hid hs2
  have HW0 := hid hw
  clear H hel he0 hc0 hbe hbr hnd gw2 g2 hs2 hw
  go_enter Try.func75, Try.ntmps75
  go_upto_region 1 with (fail)
  rw [← hW2]
  clear hW2
  have hcall := HCALL.out
  go_upto_region 2 with (go_at_call 52; (with_reducible refine hcall.mono ?_); rintro e w4 ⟨v, rfl, hrd, hg4⟩; clear hcall c0 c1 c2 c3 e3; obtain ⟨a5, c5, A5, l5, rfl, hrs⟩ := hrd)
  obtain ⟨W6, hW6⟩ : ∃ q : World, q = w4.alloc (.cells #[.slice a5 l5.length c5, .bool A5] 89) := ⟨_, rfl⟩
  have g46 : Grew w4 W6 := by rw [hW6]; exact (Fr.refl _ _).alloc _
  have ho6 : W6.heap[w4.heap.size]? = some (.cells #[.slice a5 l5.length c5, .bool A5] 89 (0, 0)) := by rw [hW6]; exact heap_alloc_new w4 _
  have g26 : Grew W2 W6 := hg4.trans g46 (fun _ _ f => f)
  have g06 : Grew w0 W6 := HGW2.out.trans g26 (fun _ _ f => f)
  have HL24 := hid (show w.heap.size + 2 ≤ w4.heap.size by have := hg4.size; have := HS2.out; omega)
  have HG06 := hid g06
  have HGW6 := hid (HG2.out.trans g26 (fun _ _ f => f))
  have HRS6 := hid (hrs.kept g46)
  have HO6 := hid ho6
  have HR6 := hid (g26.get HBR.out (fun f => f))
  have HE6 := hid (cell_of_get (g26.get HBE.out (fun f => f)) 3)
  have HC6 := hid (And.intro (g06.cell HEE.out.c0 (fun f => f)) (g06.cell HEE.out.c1 (fun f => f)))
  have HND6 := hid (HND.out.grew g06)
  rw [← hW6]
  clear hW6 g46 ho6 g26 g06 hg4 hrs
  obtain ⟨c0, c1⟩ := HC6.out
  have e3 : W6.cell? ⟨w.heap.size, 3, none⟩ = some (.slice (some ⟨g, o, none⟩) (r.length + 1) cap) := HE6.out
  have HDE := hid (fun (h : ofs nl x0.kind x0.text = []) => show (dem nl x0).eqv dR by
    rw [HDR.out, h]
    simp [pick, unl, DS.un, DS.no, DS.eqv])
  by_cases k5 : x0.kind = 5
  case neg =>
    have hk5 : (x0.kind == 5) = false := by simpa using k5
    have HOF := hid (show ofs nl x0.kind x0.text = [] by simp [ofs, k5])
    obtain ⟨o0, o1⟩ := And.intro (cell_of_get HO6.out 0) (cell_of_get HO6.out 1)
    obtain ⟨r0, r1⟩ := And.intro (cell_of_get HR6.out 0) (cell_of_get HR6.out 1)
    obtain ⟨y0, y1⟩ := And.intro (frozen_of_get HR6.out 0) (frozen_of_get HR6.out 1)
    clear k5 c1
    go_wp2
    exact bodyPost_ret (v := .agg #[.slice a5 l5.length c5, .bool A5]) (res89 Try.results75 _ _ (w.heap.size + 1) rfl (set2_heap HR6.out _ _)) rfl (dr_done (HRS6.out.as (HDE.out HOF.out)) HGW6.out ⟨_, _, _, _, rfl, rfl⟩ HR6.out (by omega))
  case pos =>
    have hfind := find_any HND6.out x0.text
    rw [k5] at c0
    go_upto_region 5 with (go_at_call 95; (with_reducible refine hfind.mono ?_); rintro e w7 ⟨vp, rfl, hg7, hfd⟩; clear hfind)
    have HG7 := hid hg7
    have HO7 := hid (hg7.get HO6.out (fun f => f))
    have HR7 := hid (hg7.get HR6.out (fun f => f))
    have HE7 := hid (hg7.cell HE6.out (fun f => f))
    have HRS7 := hid (HRS6.out.kept hg7)
    have HGW7 := hid (HGW6.out.trans hg7 (fun _ _ f => f))
    have HG07 := hid (HG06.out.trans hg7 (fun _ _ f => f))
    have HND7 := hid (HND6.out.grew hg7)
    clear hg7 c0 c1 e3
    rcases hfd with ⟨rfl, hno⟩ | ⟨i, n, gN, oN, hi, hn, hbe, rfl, rfl⟩
    · have HOF := hid (show ofs nl x0.kind x0.text = [] by rw [k5]; exact ofs_no hno)
      clear hno k5
      refine Rg.wp_region_facts 14 Grew [(28, Rg.Ex (.pointer none)), (29, Rg.Ex (.bool true)), (30, Rg.Ex (.bool true)), (31, Rg.Ex (undef)), (32, Rg.Ex (undef)), (33, Rg.Ex (undef)), (34, Rg.Ex (undef)), (35, Rg.Ex (undef)), (36, Rg.Ex (undef)), (37, Rg.Ex (undef)), (38, Rg.Ex (undef)), (39, Rg.Ex (undef)), (40, Rg.Ex (undef)), (41, Rg.Ex (.bool true))] (by kernel_rfl) (by kernel_rfl) (by rfl) (by rfl)
        (fun a => Fr.refl _ a) (fun a b c h k => h.trans k (fun _ _ f => f)) (Fr.refl _ _).drew
        (Rg.Stays.all ⟨Rg.Ex.stays _, Rg.Ex.stays _, Rg.Ex.stays _, Rg.Ex.stays _, Rg.Ex.stays _, Rg.Ex.stays _, Rg.Ex.stays _, Rg.Ex.stays _, Rg.Ex.stays _, Rg.Ex.stays _, Rg.Ex.stays _, Rg.Ex.stays _, Rg.Ex.stays _, Rg.Ex.stays _, trivial⟩) ?_ ?_
      · go_light
        refine Rg.OpGoals.cons (Rg.OpGoal.plain rfl ?_) (Rg.OpGoals.cons (Rg.OpGoal.plain rfl ?_) (Rg.OpGoals.cons (Rg.OpGoal.plain rfl ?_) (Rg.OpGoals.cons (Rg.OpGoal.passed (d := 30) (want := false) rfl (fun _ _ h e => nomatch (h.symm.trans e)) (fun _ _ h => by cases h; rfl)) (Rg.OpGoals.cons (Rg.OpGoal.passed (d := 30) (want := false) rfl (fun _ _ h e => nomatch (h.symm.trans e)) (fun _ _ h => by cases h; rfl)) (Rg.OpGoals.cons (Rg.OpGoal.passed (d := 30) (want := false) rfl (fun _ _ h e => nomatch (h.symm.trans e)) (fun _ _ h => by cases h; rfl)) (Rg.OpGoals.cons (Rg.OpGoal.passed (d := 30) (want := false) rfl (fun _ _ h e => nomatch (h.symm.trans e)) (fun _ _ h => by cases h; rfl)) (Rg.OpGoals.cons (Rg.OpGoal.passed (d := 30) (want := false) rfl (fun _ _ h e => nomatch (h.symm.trans e)) (fun _ _ h => by cases h; rfl)) (Rg.OpGoals.cons (Rg.OpGoal.passed (d := 30) (want := false) rfl (fun _ _ h e => nomatch (h.symm.trans e)) (fun _ _ h => by cases h; rfl)) (Rg.OpGoals.cons (Rg.OpGoal.passed (d := 30) (want := false) rfl (fun _ _ h e => nomatch (h.symm.trans e)) (fun _ _ h => by cases h; rfl)) (Rg.OpGoals.cons (Rg.OpGoal.passed (d := 30) (want := false) rfl (fun _ _ h e => nomatch (h.symm.trans e)) (fun _ _ h => by cases h; rfl)) (Rg.OpGoals.cons (Rg.OpGoal.passed (d := 30) (want := false) rfl (fun _ _ h e => nomatch (h.symm.trans e)) (fun _ _ h => by cases h; rfl)) (Rg.OpGoals.cons (Rg.OpGoal.passed (d := 30) (want := false) rfl (fun _ _ h e => nomatch (h.symm.trans e)) (fun _ _ h => by cases h; rfl)) (Rg.OpGoals.cons (Rg.OpGoal.plain rfl ?_) Rg.OpGoals.none)))))))))))))
        all_goals (intro a' w' hS hR; simp [Rg.Rd, Op.operands, Rg.Fk, Rg.Ex] at hR)
        all_goals try (simp [Rg.Yields, execOp, Act.eval, hR, go_sem, Rg.Fk, Rg.Ex, Fr.refl]; done)
      · intro w5 hS
        rintro _ rfl _ rfl _ rfl _ rfl _ rfl _ rfl _ rfl _ rfl _ rfl _ rfl _ rfl _ rfl _ rfl _ rfl
        refine Rg.Then.nil ?_
        obtain ⟨o0, o1⟩ := And.intro (hS.cell (cell_of_get HO7.out 0) (fun f => f)) (hS.cell (cell_of_get HO7.out 1) (fun f => f))
        have hr5 := hS.get HR7.out (fun f => f)
        obtain ⟨r0, r1⟩ := And.intro (cell_of_get hr5 0) (cell_of_get hr5 1)
        obtain ⟨y0, y1⟩ := And.intro (frozen_of_get hr5 0) (frozen_of_get hr5 1)
        have HR5 := hid hr5
        have HS5 := hid hS
        clear hr5 hS
        go_wp2
        exact bodyPost_ret (v := .agg #[.slice a5 l5.length c5, .bool A5]) (res89 Try.results75 _ _ (w.heap.size + 1) rfl (set2_heap HR5.out _ _)) rfl (dr_done ((HRS7.out.kept HS5.out).as (HDE.out HOF.out)) (HGW7.out.trans HS5.out (fun _ _ f => f)) ⟨_, _, _, _, rfl, rfl⟩ HR5.out (by omega))
    · have HOF := hid (show ofs nl x0.kind x0.text = n.2 by rw [k5]; exact ofs_at hi hn hbe)
      obtain ⟨_, _, ea, hcN, hcN', h4⟩ := HND7.out
      simp only [Value.slice.injEq] at ea
      obtain ⟨rfl, -, rfl⟩ := ea
      obtain ⟨g3, o3, eg, hgN, hel⟩ := h4.resolve_left (fun e => by rw [e] at hi; simp at hi)
      simp only [Option.some.injEq, Addr.mk.injEq, and_true] at eg
      obtain ⟨rfl, rfl⟩ := eg
      obtain ⟨-, aB, cB, hcB, hBo⟩ := hel i n hi
      obtain ⟨os, hos⟩ : ∃ l, n.2 = l := ⟨_, rfl⟩
      rw [hos] at hcB hBo HOF
      obtain ⟨_, _, eB, hB1, hB2⟩ := hBo.shape
      simp only [Value.slice.injEq] at eB
      obtain ⟨-, -, rfl⟩ := eB
      replace hB2 : cB ≤ 9223372036854775807 := hB2
      have HBO := hid hBo
      have HCB := hid hcB
      have HCAP := hid hcN'
      have HGN := hid hgN
      clear hos hBo hcB hel h4 hi hn hbe hcN hcN' k5 hgN
      have HSUB := hid (show (-9223372036854775808 : Int) ≤ (r.length : Int) + 1 - 1 ∧ (r.length : Int) + 1 - 1 ≤ 9223372036854775807 by omega)
      by_cases hle : os.length ≤ r.length
      · have HDE2 := hid (show dR = (dem nl x0).un (unl (pick os (dems nl r))) by rw [HDR.out, HOF.out, if_pos hle])
        have HLE := hid hle
        have HDB := hid (show decide ((r.length : Int) < (os.length : Int)) = false by simp; omega)
        clear hle
        refine Rg.wp_region_facts 14 Grew [(28, Rg.Ex (.pointer (some ⟨gN, oN + i * 2, none⟩))), (29, Rg.Ex (.bool false)), (30, Rg.Ex (.bool false)), (31, Rg.Ex (.pointer (some ⟨w.heap.size, 3, none⟩))), (32, Rg.Ex (.slice (some ⟨g, o, none⟩) (r.length + 1) cap)), (33, Rg.Ex (.int .i64 ((r.length : Int) + 1))), (34, Rg.Ex (.int .i64 (r.length : Int))), (35, Rg.Ex (.pointer (some ⟨gN, oN + i * 2, none⟩))), (36, Rg.Ex (.pointer (some ⟨gN, oN + i * 2, none⟩))), (37, Rg.Ex (.pointer (some ⟨gN, oN + i * 2 + 1, none⟩))), (38, Rg.Ex (.slice aB os.length cB)), (39, Rg.Ex (.int .i64 (os.length : Int))), (40, Rg.Ex (.bool false)), (41, Rg.Ex (.bool false))] (by kernel_rfl) (by kernel_rfl) (by rfl) (by rfl)
          (fun a => Fr.refl _ a) (fun a b c h k => h.trans k (fun _ _ f => f)) (Fr.refl _ _).drew
          (Rg.Stays.all ⟨Rg.Ex.stays _, Rg.Ex.stays _, Rg.Ex.stays _, Rg.Ex.stays _, Rg.Ex.stays _, Rg.Ex.stays _, Rg.Ex.stays _, Rg.Ex.stays _, Rg.Ex.stays _, Rg.Ex.stays _, Rg.Ex.stays _, Rg.Ex.stays _, Rg.Ex.stays _, Rg.Ex.stays _, trivial⟩) ?_ ?_
        · go_light
          refine Rg.OpGoals.cons (Rg.OpGoal.plain rfl ?_) (Rg.OpGoals.cons (Rg.OpGoal.plain rfl ?_) (Rg.OpGoals.cons (Rg.OpGoal.plain rfl ?_) (Rg.OpGoals.cons (Rg.OpGoal.guarded (d := 30) (want := false) rfl (fun _ _ h => h) ?_) (Rg.OpGoals.cons (Rg.OpGoal.guarded (d := 30) (want := false) rfl (fun _ _ h => h) ?_) (Rg.OpGoals.cons (Rg.OpGoal.guarded (d := 30) (want := false) rfl (fun _ _ h => h) ?_) (Rg.OpGoals.cons (Rg.OpGoal.guarded (d := 30) (want := false) rfl (fun _ _ h => h) ?_) (Rg.OpGoals.cons (Rg.OpGoal.guarded (d := 30) (want := false) rfl (fun _ _ h => h) ?_) (Rg.OpGoals.cons (Rg.OpGoal.guarded (d := 30) (want := false) rfl (fun _ _ h => h) ?_) (Rg.OpGoals.cons (Rg.OpGoal.guarded (d := 30) (want := false) rfl (fun _ _ h => h) ?_) (Rg.OpGoals.cons (Rg.OpGoal.guarded (d := 30) (want := false) rfl (fun _ _ h => h) ?_) (Rg.OpGoals.cons (Rg.OpGoal.guarded (d := 30) (want := false) rfl (fun _ _ h => h) ?_) (Rg.OpGoals.cons (Rg.OpGoal.guarded (d := 30) (want := false) rfl (fun _ _ h => h) ?_) (Rg.OpGoals.cons (Rg.OpGoal.plain rfl ?_) Rg.OpGoals.none)))))))))))))
          all_goals (intro a' w' hS hR; simp [Rg.Rd, Op.operands, Call.operands, Rg.Fk, Rg.Ex] at hR)
          all_goals (have e3' := hS.cell HE7.out (fun f => f))
          all_goals (have cb' := hS.cell HCB.out (fun f => f))
          all_goals try (simp [Rg.Yields, execOp, Act.eval, hR, e3', cb', go_sem, Rg.Fk, Rg.Ex, Fr.refl]; done)
          · simp [Rg.Yields, execOp, Act.eval, hR, go_sem, Rg.Fk, Rg.Ex, Fr.refl]
            exact IntWalk.i64_in _ (by omega)
          · simp [Rg.Yields, execOp, Act.eval, hR, go_sem, Rg.Fk, Rg.Ex, Fr.refl]
            have := of_decide_eq_false HDB.out
            omega
        · intro w5 hS
          rintro _ rfl _ rfl _ rfl _ rfl _ rfl _ rfl _ rfl _ rfl _ rfl _ rfl _ rfl _ rfl _ rfl _ rfl
          refine Rg.Then.nil ?_
          have HR5 := hid (hS.get HR7.out (fun f => f))
          have HO5 := hid (hS.get HO7.out (fun f => f))
          have HE5 := hid (hS.cell HE7.out (fun f => f))
          have HCB5 := hid (hS.cell HCB.out (fun f => f))
          have HRS5 := hid (HRS7.out.kept hS)
          have HGW5 := hid (HGW7.out.trans hS (fun _ _ f => f))
          have HG05 := hid (HG07.out.trans hS (fun _ _ f => f))
          have HBO5 := hid (HBO.out.grew hS)
          clear hS
          go_wp2
          go_loopw [7] (fun iv wr => ∃ (j : Nat) (ml : List Str) (aO : Option Addr) (cO : Nat) (A : Bool), j ≤ os.length ∧ iv = .int .i64 j ∧ wr.heap[w4.heap.size]? = some (.cells #[.slice aO ml.length cO, .bool A] 89 (0, 0)) ∧ RS wr aO cO A ml ((dem nl x0).un (unl (pick (os.take j) (dems nl r)))) ∧ Fr (fun c => c = w4.heap.size) w5 wr) (fun i _ => os.length - (intOf i).toNat)
          case atStart => exact ⟨0, l5, a5, c5, A5, Nat.zero_le _, rfl, HO5.out, HRS5.out.as (by simp [pick, unl, DS.un, DS.no, DS.eqv]), Fr.refl _ _⟩
          case round =>
            obtain ⟨j, ml, aO, cO, A, hj, rfl, hbo, hrs, hfr⟩ := hrel
            have hl24 := HL24.out
            have hw0 := HW0.out.size
            have hgN := HGN.out
            have cb := hfr.cell HCB5.out (by show ¬ gN = w4.heap.size; omega)
            have HGW := hid (show Grew w wr from HGW5.out.trans hfr (fun c hc e => by omega))
            have hg0 : Grew w0 wr := HG05.out.trans hfr (fun c hc e => by omega)
            have HFR := hid hfr
            have HRS := hid hrs
            have HBOX := hid hbo
            by_cases hlt : j < os.length
            · obtain ⟨bt, hbt⟩ := at_of_lt (l := os) hlt
              obtain ⟨_, _, e, -, -, h4⟩ := HBO5.out
              simp only [Value.slice.injEq] at e
              obtain ⟨rfl, -, rfl⟩ := e
              obtain ⟨gB, oB, rfl, hD2, hb2⟩ := h4.resolve_left (fun e => by rw [e] at hlt; simp at hlt)
              have cq := hfr.cell (hb2 j bt hbt) (by show ¬ (gB = w4.heap.size); omega)
              cases bt
              · have hpf := pick_false (ds := dems nl r) hbt
                have HS' := hid (show RS wr aO cO A ml ((dem nl x0).un (unl (pick (os.take (j + 1)) (dems nl r)))) by rw [hpf]; exact hrs)
                clear hpf hbt hb2 hD2 hbo hrs hfr hg0 hl24 hw0 hgN h4
                go_wp2
                go_roundw
                case rel => exact ⟨j + 1, ml, aO, cO, A, by omega, by go_num, HBOX.out, HS'.out, HFR.out⟩
                case measure => simp [intOf]; omega
              · have hjr : j < r.length := by have := HLE.out; omega
                obtain ⟨x, hx⟩ := at_of_lt (l := r) hjr
                obtain ⟨an, cn, aa, ca, he, hc⟩ := HEL.out (j + 1) x (by simpa using hx)
                obtain ⟨dP, hdP⟩ : ∃ d, d = (dem nl x0).un (unl (pick (os.take j) (dems nl r))) := ⟨_, rfl⟩
                have HIN := hid (show Ins (vss (x0 :: r)) dP from by
                  rw [hdP]
                  refine (HU.out x0 (by simp)).un (Ins.unl (fun d hd => ?_))
                  exact dems_ins nl (x0 :: r) d (List.mem_cons_of_mem _ (pick_mem hd)))
                have HINX := hid (HU.out x (List.mem_cons_of_mem _ (List.mem_of_getElem? hx)))
                rw [← hdP] at HRS
                have HUT := hid (show (dP.un (dem nl x)).eqv ((dem nl x0).un (unl (pick (os.take (j + 1)) (dems nl r)))) by rw [hdP]; exact un_un (pick_true hbt (dems_get nl hx)))
                have hj1 : (j : Int) < (r.length : Int) := by omega
                have hj2 : (j : Int) + 1 < (r.length : Int) + 1 := by omega
                have hj3 : (0 : Int) ≤ (j : Int) + 1 := by omega
                have HC := hid (And.intro (hg0.cell he.c0 (fun f => f)) (And.intro (hg0.cell he.c1 (fun f => f)) (And.intro (hg0.cell he.c2 (fun f => f)) (hg0.cell he.c3 (fun f => f)))))
                have HO := hid (And.intro (cell_of_get hbo 0) (cell_of_get hbo 1))
                have HE7 := hid (hfr.cell HE5.out (by show ¬ (w.heap.size = w4.heap.size); omega))
                have HDX := hid (fun (W' : World) (k : Grew wr W') => hc W' (hg0.trans k (fun _ _ f => f)))
                clear hbt hb2 hD2 hbo hrs hfr hg0 hl24 hw0 hgN he hc hx hdP h4
                go_upto_region 11 with (fail)
                clear cb cq
                refine Rg.wp_region_facts 10 Grew [(59, Rg.Ex (.agg #[.slice aO ml.length cO, .bool A])), (60, Rg.Ex (.pointer (some ⟨w.heap.size, 3, none⟩))), (61, Rg.Ex (.slice (some ⟨g, o, none⟩) (r.length + 1) cap)), (62, Rg.Ex (.int .i64 (j : Int))), (63, Rg.Ex (.int .i64 ((j + 1 : Nat) : Int))), (64, Rg.Ex (.pointer (some ⟨g, o + (j + 1) * 4, none⟩))), (65, Rg.Ex (.agg #[Kv x.kind, St x.text, .slice an x.names.length cn, .slice aa x.parts.length ca])), (66, Rg.Ex (.slice (some ⟨gN, oN, none⟩) nl.length cN)), (67, FR8 (dem nl x)), (68, FR8 (dP.un (dem nl x)))] (by kernel_rfl) (by kernel_rfl) (by rfl) (by rfl)
                  (fun a => Fr.refl _ a) (fun a b c h k => h.trans k (fun _ _ f => f)) (Fr.refl _ _).drew
                  (Rg.Stays.all ⟨Rg.Ex.stays _, Rg.Ex.stays _, Rg.Ex.stays _, Rg.Ex.stays _, Rg.Ex.stays _, Rg.Ex.stays _, Rg.Ex.stays _, Rg.Ex.stays _, FR8.stays _, FR8.stays _, trivial⟩) ?_ ?_
                · go_light
                  refine Rg.OpGoals.cons (Rg.OpGoal.plain rfl ?_) (Rg.OpGoals.cons (Rg.OpGoal.plain rfl ?_) (Rg.OpGoals.cons (Rg.OpGoal.plain rfl ?_) (Rg.OpGoals.cons (Rg.OpGoal.plain rfl ?_) (Rg.OpGoals.cons (Rg.OpGoal.plain rfl ?_) (Rg.OpGoals.cons (Rg.OpGoal.plain rfl ?_) (Rg.OpGoals.cons (Rg.OpGoal.plain rfl ?_) (Rg.OpGoals.cons (Rg.OpGoal.plain rfl ?_) (Rg.OpGoals.cons (Rg.OpGoal.plain rfl ?_) (Rg.OpGoals.cons (Rg.OpGoal.plain rfl ?_) Rg.OpGoals.none)))))))))
                  all_goals (intro a' w' hS hR; simp [Rg.Rd, Op.operands, Call.operands, Rg.Fk, Rg.Ex] at hR)
                  all_goals (have o0' := hS.cell HO.out.1 (fun f => f))
                  all_goals (have o1' := hS.cell HO.out.2 (fun f => f))
                  all_goals (have e3' := hS.cell HE7.out (fun f => f))
                  all_goals (have c0' := hS.cell HC.out.1 (fun f => f))
                  all_goals (have c1' := hS.cell HC.out.2.1 (fun f => f))
                  all_goals (have c2' := hS.cell HC.out.2.2.1 (fun f => f))
                  all_goals (have c3' := hS.cell HC.out.2.2.2 (fun f => f))
                  all_goals try (simp [Rg.Yields, execOp, Act.eval, hR, o0', o1', e3', c0', c1', c2', c3', hj2, hj3, go_sem, Rg.Fk, Rg.Ex, Fr.refl]; done)
                  · simp [Rg.Yields, execOp, Act.eval, hR, go_sem, Rg.Fk, Rg.Ex, Fr.refl]
                    rw [Int.add_comm]
                    exact IntWalk.i64_in _ (by omega)
                  · simp [Rg.Yields, Act.eval, hR, go_sem, Rg.Fk, Rg.Ex]
                    refine (HDX.out _ hS).mono ?_
                    rintro e w2 ⟨r, rfl, h1, h2⟩
                    exact ⟨r, rfl, h1, h2⟩
                  · obtain ⟨e1, h2⟩ := hR
                    obtain ⟨b2, n2, c2, A2, e2⟩ := RD.shape h2
                    have h2' : RD w' _ _ := h2
                    rw [e2] at h2'
                    simp [Rg.Yields, Act.eval, e1, e2, go_sem, Rg.Fk, Rg.Ex]
                    refine (rboth_any (show RD w' _ _ from ⟨_, _, _, _, rfl, HRS.out.kept hS⟩) h2' HIN.out HINX.out HUL.out).mono ?_
                    rintro e w2 ⟨r, rfl, h3, h4⟩
                    exact ⟨r, rfl, h3, h4⟩
                · intro w8 hS
                  rintro _ rfl _ rfl _ rfl _ rfl _ rfl _ rfl _ rfl _ rfl v67 h67 v68 h68
                  refine Rg.Then.nil ?_
                  clear h67
                  obtain ⟨a8, c8, A8, l8, rfl, h68'⟩ := h68
                  have hq := hS.get HBOX.out (fun f => f)
                  obtain ⟨k0, k1⟩ := And.intro (cell_of_get hq 0) (cell_of_get hq 1)
                  obtain ⟨f0, f1⟩ := And.intro (frozen_of_get hq 0) (frozen_of_get hq 1)
                  have hset := set2_fr w8 w4.heap.size (.slice a8 l8.length c8) (.bool A8)
                  have HQ8 := hid (set2_heap hq (.slice a8 l8.length c8) (.bool A8))
                  have HRS8 := hid ((h68'.as HUT.out).set hq hset)
                  have HFR8 := hid ((HFR.out.trans (Grew.any hS) (fun _ _ e => e)).trans hset (fun _ _ e => e))
                  clear h68' hq hset hS
                  go_wp2
                  go_roundw
                  case rel => exact ⟨j + 1, l8, a8, c8, A8, by omega, by go_num, HQ8.out, HRS8.out, HFR8.out⟩
                  case measure => simp [intOf]; omega
            · obtain rfl : j = os.length := by omega
              rw [List.take_length] at hrs
              obtain ⟨o0, o1⟩ := And.intro (cell_of_get hbo 0) (cell_of_get hbo 1)
              have hr := hfr.get HR5.out (by omega)
              obtain ⟨r0, r1⟩ := And.intro (cell_of_get hr 0) (cell_of_get hr 1)
              obtain ⟨y0, y1⟩ := And.intro (frozen_of_get hr 0) (frozen_of_get hr 1)
              have HR := hid hr
              have HRSe := hid hrs
              clear hbo hrs hfr hr hg0 hl24 hw0 hgN
              go_wp2
              exact bodyPost_ret (v := .agg #[.slice aO ml.length cO, .bool A]) (res89 Try.results75 _ _ (w.heap.size + 1) rfl (set2_heap HR.out _ _)) rfl (dr_done (by rw [HDE2.out]; exact HRSe.out) HGW.out ⟨_, _, _, _, rfl, rfl⟩ HR.out (by omega))
      · have HDE2 := hid (show dR = dem nl x0 by rw [HDR.out, HOF.out, if_neg hle])
        have HDB := hid (show decide ((r.length : Int) < (os.length : Int)) = true by simp; omega)
        clear hle
        refine Rg.wp_region_facts 14 Grew [(28, Rg.Ex (.pointer (some ⟨gN, oN + i * 2, none⟩))), (29, Rg.Ex (.bool false)), (30, Rg.Ex (.bool false)), (31, Rg.Ex (.pointer (some ⟨w.heap.size, 3, none⟩))), (32, Rg.Ex (.slice (some ⟨g, o, none⟩) (r.length + 1) cap)), (33, Rg.Ex (.int .i64 ((r.length : Int) + 1))), (34, Rg.Ex (.int .i64 (r.length : Int))), (35, Rg.Ex (.pointer (some ⟨gN, oN + i * 2, none⟩))), (36, Rg.Ex (.pointer (some ⟨gN, oN + i * 2, none⟩))), (37, Rg.Ex (.pointer (some ⟨gN, oN + i * 2 + 1, none⟩))), (38, Rg.Ex (.slice aB os.length cB)), (39, Rg.Ex (.int .i64 (os.length : Int))), (40, Rg.Ex (.bool true)), (41, Rg.Ex (.bool true))] (by kernel_rfl) (by kernel_rfl) (by rfl) (by rfl)
          (fun a => Fr.refl _ a) (fun a b c h k => h.trans k (fun _ _ f => f)) (Fr.refl _ _).drew
          (Rg.Stays.all ⟨Rg.Ex.stays _, Rg.Ex.stays _, Rg.Ex.stays _, Rg.Ex.stays _, Rg.Ex.stays _, Rg.Ex.stays _, Rg.Ex.stays _, Rg.Ex.stays _, Rg.Ex.stays _, Rg.Ex.stays _, Rg.Ex.stays _, Rg.Ex.stays _, Rg.Ex.stays _, Rg.Ex.stays _, trivial⟩) ?_ ?_
        · go_light
          refine Rg.OpGoals.cons (Rg.OpGoal.plain rfl ?_) (Rg.OpGoals.cons (Rg.OpGoal.plain rfl ?_) (Rg.OpGoals.cons (Rg.OpGoal.plain rfl ?_) (Rg.OpGoals.cons (Rg.OpGoal.guarded (d := 30) (want := false) rfl (fun _ _ h => h) ?_) (Rg.OpGoals.cons (Rg.OpGoal.guarded (d := 30) (want := false) rfl (fun _ _ h => h) ?_) (Rg.OpGoals.cons (Rg.OpGoal.guarded (d := 30) (want := false) rfl (fun _ _ h => h) ?_) (Rg.OpGoals.cons (Rg.OpGoal.guarded (d := 30) (want := false) rfl (fun _ _ h => h) ?_) (Rg.OpGoals.cons (Rg.OpGoal.guarded (d := 30) (want := false) rfl (fun _ _ h => h) ?_) (Rg.OpGoals.cons (Rg.OpGoal.guarded (d := 30) (want := false) rfl (fun _ _ h => h) ?_) (Rg.OpGoals.cons (Rg.OpGoal.guarded (d := 30) (want := false) rfl (fun _ _ h => h) ?_) (Rg.OpGoals.cons (Rg.OpGoal.guarded (d := 30) (want := false) rfl (fun _ _ h => h) ?_) (Rg.OpGoals.cons (Rg.OpGoal.guarded (d := 30) (want := false) rfl (fun _ _ h => h) ?_) (Rg.OpGoals.cons (Rg.OpGoal.guarded (d := 30) (want := false) rfl (fun _ _ h => h) ?_) (Rg.OpGoals.cons (Rg.OpGoal.plain rfl ?_) Rg.OpGoals.none)))))))))))))
          all_goals (intro a' w' hS hR; simp [Rg.Rd, Op.operands, Call.operands, Rg.Fk, Rg.Ex] at hR)
          all_goals (have e3' := hS.cell HE7.out (fun f => f))
          all_goals (have cb' := hS.cell HCB.out (fun f => f))
          all_goals try (simp [Rg.Yields, execOp, Act.eval, hR, e3', cb', go_sem, Rg.Fk, Rg.Ex, Fr.refl]; done)
          · simp [Rg.Yields, execOp, Act.eval, hR, go_sem, Rg.Fk, Rg.Ex, Fr.refl]
            exact IntWalk.i64_in _ (by omega)
          · simp [Rg.Yields, execOp, Act.eval, hR, go_sem, Rg.Fk, Rg.Ex, Fr.refl]
            have := of_decide_eq_true HDB.out
            omega
        · intro w5 hS
          rintro _ rfl _ rfl _ rfl _ rfl _ rfl _ rfl _ rfl _ rfl _ rfl _ rfl _ rfl _ rfl _ rfl _ rfl
          refine Rg.Then.nil ?_
          obtain ⟨o0, o1⟩ := And.intro (hS.cell (cell_of_get HO7.out 0) (fun f => f)) (hS.cell (cell_of_get HO7.out 1) (fun f => f))
          have hr5 := hS.get HR7.out (fun f => f)
          obtain ⟨r0, r1⟩ := And.intro (cell_of_get hr5 0) (cell_of_get hr5 1)
          obtain ⟨y0, y1⟩ := And.intro (frozen_of_get hr5 0) (frozen_of_get hr5 1)
          have HR5 := hid hr5
          have HS5 := hid hS
          clear hr5 hS
          go_wp2
          exact bodyPost_ret (v := .agg #[.slice a5 l5.length c5, .bool A5]) (res89 Try.results75 _ _ (w.heap.size + 1) rfl (set2_heap HR5.out _ _)) rfl (dr_done (by rw [HDE2.out]; exact HRS7.out.kept HS5.out) (HGW7.out.trans HS5.out (fun _ _ f => f)) ⟨_, _, _, _, rfl, rfl⟩ HR5.out (by omega))
end Go.Proofs.Ytddcfnjmppijjaa

/-! thunkref8.bound. -/
namespace Go.Proofs.Ytddcfnjmppijjaa
open Go.RowKit

/-- how far a let has come -/
structure LR (W7 : World) (U : List Str) (g5 gs : Nat) (d0 : DS) (ps : List (Str × DS)) (sl : List Bool) (dO : DS) (a : Option Addr) (c : Nat) (A : Bool) (ls : List Str) (wr : World) : Prop where
  out : wr.heap[g5]? = some (.cells #[.slice a ls.length c, .bool A] 89 (0, 0))
  rs : RS wr a c A ls dO
  bs : Bs wr gs sl
  li : LI d0 ps sl dO
  ins : Ins U dO
  fr : Fr (fun c => c = g5 ∨ c = gs) W7 wr
theorem LR.grew {W7 : World} {U : List Str} {g5 gs : Nat} {d0 : DS} {ps : List (Str × DS)} {sl : List Bool} {dO : DS} {a : Option Addr} {c : Nat} {A : Bool} {ls : List Str} {wr w' : World} (h : LR W7 U g5 gs d0 ps sl dO a c A ls wr) (k : Grew wr w') : LR W7 U g5 gs d0 ps sl dO a c A ls w' :=
  ⟨k.get h.out (fun f => f), h.rs.kept k, h.bs.kept k (fun f => f), h.li, h.ins, h.fr.trans (Grew.any k) (fun _ _ e => e)⟩
theorem LR.leftW {W7 : World} {U : List Str} {g5 gs : Nat} {d0 : DS} {ps : List (Str × DS)} {sl : List Bool} {dO : DS} {a : Option Addr} {c : Nat} {A : Bool} {ls : List Str} {wr w' : World} (h : LR W7 U g5 gs d0 ps sl dO a c A ls wr) (k : Grew wr w') : leftW w' gs = leftW wr gs := by
  rw [h.bs.left, (h.grew k).bs.left]
/-- a row of truths is no row of texts -/
theorem nm_bools {w w' : World} {D : Nat → Prop} {v : Value} {l : List Str} {b : Nat} {sl : List Bool} (h : Nm w D v l) (hb : Bs w b sl) (k : Fr (fun k => k = b) w w') : Nm w' D v l := by
  obtain ⟨ad, cap, h1, h2, h3, h4⟩ := h
  refine ⟨ad, cap, h1, h2, h3, ?_⟩
  by_cases hl : l = []
  · exact .inl hl
  obtain ⟨g, o, h5, h6, h7⟩ := h4.resolve_left hl
  refine .inr ⟨g, o, h5, h6, fun i hi => k.cell (h7 i hi) (fun e => ?_)⟩
  have h8 := h7 i hi
  simp only at e
  subst e
  rw [cell_of_get hb] at h8
  simp at h8
theorem LR.mark {W7 : World} {U : List Str} {g5 gs : Nat} {d0 : DS} {ps : List (Str × DS)} {sl : List Bool} {dO : DS} {a : Option Addr} {c : Nat} {A : Bool} {ls : List Str} {wr w' : World} (h : LR W7 U g5 gs d0 ps sl dO a c A ls wr) (k : Fr (fun k => k = gs) wr w') : RS w' a c A ls dO :=
  ⟨nm_bools h.rs.nm h.bs k, h.rs.so, h.rs.nd, h.rs.all, h.rs.no, h.rs.mem⟩

set_option maxHeartbeats 8000000 in
set_option maxRecDepth 100000 in
/-- bound -/
theorem bound_core {w0 : World} {D : Nat → Prop} {aN : Option Addr} {cN : Nat} {nl : Ned} {av : Option Addr} {l : List X} {ns : List Str} {y : X} {cap : Nat} (H : DrAt w0 D (.slice aN nl.length cN) nl av l) (hsz : sizes l ≤ 400000) (hll : l.length = ns.length + 1) (hl : ns.length ≤ 1000000) (hy : l[ns.length]? = some y) (w : World) (hw : Grew w0 w) (k : Int) (t : Str) (vn : Value)
    (hnm : Nm w0 (fun b => w0.heap.size ≤ b) vn ns) : Calls Try.prog 78 #[.agg #[Kv k, St t, vn, .slice av (ns.length + 1) cap], .slice aN nl.length cN] w (DrPost w (letD (dem nl y) (ns.zip (dems nl l)))) := by
  obtain ⟨dR, hdR⟩ : ∃ d, d = letD (dem nl y) (ns.zip (dems nl l)) := ⟨_, rfl⟩
  rw [← hdR]
  have HDR := hid hdR
  clear hdR
  obtain ⟨an, cn, rfl, hn1, hn2⟩ := hnm.shape
  replace hn2 : cn ≤ 9223372036854775807 := hn2
  obtain ⟨g, o, rfl, hel⟩ := H (fun e => by rw [e] at hll; simp at hll)
  obtain ⟨W2, hW2⟩ : ∃ q : World, q = (w.alloc (.cells #[Kv k, St t, .slice an ns.length cn, .slice (some ⟨g, o, none⟩) (ns.length + 1) cap] 28)).alloc (.cells #[.slice none 0 0, .bool false] 89) := ⟨_, rfl⟩
  have g2 : Grew w W2 := by rw [hW2]; exact ((Fr.refl _ _).alloc _).alloc _
  have hs2 : W2.heap.size = w.heap.size + 2 := by rw [hW2]; simp
  have hbe : W2.heap[w.heap.size]? = some (.cells #[Kv k, St t, .slice an ns.length cn, .slice (some ⟨g, o, none⟩) (ns.length + 1) cap] 28 (0, 0)) := by rw [hW2]; exact ((Fr.refl (fun _ => False) _).alloc _).get (heap_alloc_new w _) (fun f => f)
  have hbr : W2.heap[w.heap.size + 1]? = some (.cells #[.slice none 0 0, .bool false] 89 (0, 0)) := by rw [hW2]; exact heap_a2 w _ _
  obtain ⟨an0, cn0, aa0, ca0, he0, hc0⟩ := hel ns.length y hy
  have gw2 := hw.trans g2 (fun _ _ f => f)
  have e2 := (show W2.cell? ⟨w.heap.size, 2, none⟩ = some (.slice an ns.length cn) from cell_of_get hbe 2)
  have e3 := (show W2.cell? ⟨w.heap.size, 3, none⟩ = some (.slice (some ⟨g, o, none⟩) (ns.length + 1) cap) from cell_of_get hbe 3)
  have c0 := gw2.cell he0.c0 (fun f => f)
  have c1 := gw2.cell he0.c1 (fun f => f)
  have c2 := gw2.cell he0.c2 (fun f => f)
  have c3 := gw2.cell he0.c3 (fun f => f)
  have HCALL := hid (hc0 W2 gw2)
  have HU := hid (show ∀ x ∈ l, Ins (vss l) (dem nl x) from fun x hx => by
    obtain ⟨i, hi⟩ := List.mem_iff_getElem?.1 hx
    exact dems_ins nl _ _ (List.mem_of_getElem? (dems_get nl hi)))
  have HUL := hid (show (vss l).length ≤ 400000 by rw [vss_len]; exact hsz)
  have HYM := hid (List.mem_of_getElem? hy)
  have HBE := hid hbe
  have HBR := hid hbr
  have HEL := hid hel
  have HLL := hid hll
  have HNM := hid hnm
  have HGW2 := hid gw2
  have HG2 := hid g2
  have HS2 := hid hs2
  have hw0 := hid hw.size
  have hnn : (ns.length : Int) < (ns.length : Int) + 1 := by omega
  clear H hel he0 hc0 hbe hbr hnm gw2 g2 hs2 hw hll hy
  go_enter Try.func78, Try.ntmps78
  go_upto_region 1 with (fail)
  rw [← hW2]
  clear hW2
  have hcall := HCALL.out
  go_upto_region 2 with (go_at_call 52; (with_reducible refine hcall.mono ?_); rintro e w4 ⟨v, rfl, hrd, hg4⟩; clear hcall c0 c1 c2 c3 e3 e2 hnn; obtain ⟨a5, c5, A5, l5, rfl, hrs⟩ := hrd)
  obtain ⟨W6, hW6⟩ : ∃ q : World, q = w4.alloc (.cells #[.slice a5 l5.length c5, .bool A5] 89) := ⟨_, rfl⟩
  have g46 : Grew w4 W6 := by rw [hW6]; exact (Fr.refl _ _).alloc _
  have ho6 : W6.heap[w4.heap.size]? = some (.cells #[.slice a5 l5.length c5, .bool A5] 89 (0, 0)) := by rw [hW6]; exact heap_alloc_new w4 _
  have g26 : Grew W2 W6 := hg4.trans g46 (fun _ _ f => f)
  have hs6 : W6.heap.size = w4.heap.size + 1 := by rw [hW6]; simp
  rw [← hW6]
  clear hW6
  have e2 : W6.cell? ⟨w.heap.size, 2, none⟩ = some (.slice an ns.length cn) := cell_of_get (g26.get HBE.out (fun f => f)) 2
  have hmk := fun w => make_bools ns.length (by omega) w
  have HS6 := hid hs6
  have HL24 := hid (show w.heap.size + 2 ≤ w4.heap.size by have := hg4.size; have := HS2.out; omega)
  have HG26 := hid g26
  have HO6 := hid ho6
  have HRS6 := hid (hrs.kept g46)
  clear hs6 g46 ho6 g26 hg4 hrs
  go_wp2
  obtain ⟨W7, hW7⟩ : ∃ z : World, z = W6.alloc (.cells (madeCells #[.bool false] ns.length) 4) := ⟨_, rfl⟩
  have g67 : Grew W6 W7 := by rw [hW7]; exact (Fr.refl _ _).alloc _
  have hbs := Bs.new W6 ns.length
  rw [← hW7] at hbs ⊢
  have hpl : (ns.zip (dems nl l)).length = ns.length := by rw [List.length_zip, dems_length, HLL.out]; omega
  have hli := LI.init (dem nl y) (ns.zip (dems nl l))
  rw [hpl] at hli
  have HLR0 := hid (show LR W7 (vss l) w4.heap.size W6.heap.size (dem nl y) (ns.zip (dems nl l)) (List.replicate ns.length false) (dem nl y) a5 c5 A5 l5 W7 from ⟨g67.get HO6.out (fun f => f), HRS6.out.kept g67, hbs, hli, HU.out y HYM.out, Fr.refl _ _⟩)
  have g27 := HG26.out.trans g67 (fun _ _ f => f)
  have HE27 := hid (cell_of_get (g27.get HBE.out (fun f => f)) 2)
  have HE37 := hid (cell_of_get (g27.get HBE.out (fun f => f)) 3)
  have HR7 := hid (g27.get HBR.out (fun f => f))
  have HG07 := hid (HGW2.out.trans g27 (fun _ _ f => f))
  have HG7 := hid (HG2.out.trans g27 (fun _ _ f => f))
  have HPL := hid hpl
  obtain ⟨gs, hgs⟩ : ∃ n, n = W6.heap.size := ⟨_, rfl⟩
  have HGS := hid (show gs = w4.heap.size + 1 by rw [hgs]; exact HS6.out)
  have HS7 := hid (show W7.heap.size = gs + 1 by rw [hW7, hgs]; simp)
  rw [← hgs] at HLR0 ⊢
  clear hmk e2 hW7 g67 hbs hpl hli g27 hgs
  obtain ⟨g5, hg5⟩ : ∃ n, n = w4.heap.size := ⟨_, rfl⟩
  rw [← hg5] at HLR0 HGS HL24 ⊢
  clear hg5
  obtain ⟨ps, hps⟩ : ∃ p, p = ns.zip (dems nl l) := ⟨_, rfl⟩
  rw [← hps] at HLR0 HDR HPL
  have HPS := hid hps
  clear hps
  go_loopw [7] (fun q wr => ∃ (ag : Bool) (sl : List Bool) (dO : DS) (a : Option Addr) (c : Nat) (A : Bool) (ls : List Str), q = .bool ag ∧ LR W7 (vss l) g5 gs (dem nl y) ps sl dO a c A ls wr ∧ (ag = false → Cl ps sl dO ns.length)) (fun a wr => 2 * leftW wr gs + (match a with | .bool true => 1 | _ => 0))
  case atStart => exact ⟨true, _, _, _, _, _, _, rfl, HLR0.out, fun e => by cases e⟩
  case round =>
    obtain ⟨ag, sl, dO, a, c, A, ls, rfl, hlr, hcl⟩ := hrel
    have HLR := hid hlr
    have HCL := hid hcl
    have hgs := HGS.out
    have hl24 := HL24.out
    have e2 : wr.cell? ⟨w.heap.size, 2, none⟩ = some (.slice an ns.length cn) := hlr.fr.cell HE27.out (by show ¬ (w.heap.size = g5 ∨ w.heap.size = gs); omega)
    obtain ⟨o0, o1⟩ := And.intro (cell_of_get hlr.out 0) (cell_of_get hlr.out 1)
    by_cases hgo : ag = true ∧ A = false
    · obtain ⟨rfl, rfl⟩ := hgo
      clear hcl hlr hgs hl24
      go_wp2
      clear e2 o0 o1
      obtain ⟨wo, rfl⟩ : ∃ q : World, q = wr := ⟨_, rfl⟩
      go_loopw [7, 8] (fun q z wr => ∃ (ag : Bool) (sl2 : List Bool) (dO2 : DS) (a2 : Option Addr) (c2 : Nat) (A2 : Bool) (ls2 : List Str) (j : Nat), q = .bool ag ∧ z = .int .i64 j ∧ j ≤ ns.length ∧ LR W7 (vss l) g5 gs (dem nl y) ps sl2 dO2 a2 c2 A2 ls2 wr ∧ leftW wr gs ≤ leftW wo gs ∧ (ag = true → leftW wr gs < leftW wo gs) ∧ (ag = false → Cl ps sl2 dO2 j)) (fun _ c _ => ns.length - (intOf c).toNat)
      case atStart => exact ⟨false, sl, dO, a, c, false, ls, 0, rfl, rfl, Nat.zero_le _, HLR.out, Nat.le_refl _, (fun e => by cases e), (fun _ _ i n d h => by omega)⟩
      case round =>
        obtain ⟨ag, sl2, dO2, a2, c2, A2, ls2, j, rfl, rfl, hj, hlr, hle, hlt2, hcl⟩ := hrel
        have hgs := HGS.out
        have hl24 := HL24.out
        have HLR2 := hid hlr
        have HLE := hid hle
        have HLT := hid hlt2
        have HCL2 := hid hcl
        have e2 : wr.cell? ⟨w.heap.size, 2, none⟩ = some (.slice an ns.length cn) := hlr.fr.cell HE27.out (by show ¬ (w.heap.size = g5 ∨ w.heap.size = gs); omega)
        by_cases hjl : j < ns.length
        · obtain ⟨s, hs⟩ := at_of_lt (l := ns) hjl
          obtain ⟨x, hx⟩ := at_of_lt (l := l) (i := j) (by have := HLL.out; omega)
          have HPJ := hid (show ps[j]? = some (s, dem nl x) by rw [HPS.out]; exact List.getElem?_zip_eq_some.2 ⟨hs, dems_get nl hx⟩)
          obtain ⟨gn, on, cn', e, -, -, -, hnel⟩ := HNM.out.row (fun e => by rw [e] at hjl; simp at hjl)
          simp only [Value.slice.injEq] at e
          obtain ⟨rfl, -, rfl⟩ := e
          have HG0 := hid (show Grew w0 wr from HG07.out.trans hlr.fr (fun c hc e => by
            have h1 := hw0.out
            omega))
          have HE2 := hid e2
          have HN0 := hid (HG0.out.cell (hnel j s hs) (fun f => f))
          have HO := hid (And.intro (cell_of_get hlr.out 0) (cell_of_get hlr.out 1))
          obtain ⟨sq, hsq⟩ := at_of_lt (l := sl2) (i := j) (by have := hlr.li.len; have := HPL.out; omega)
          have HBQ := hid (hlr.bs.cell hsq)
          have HSQ := hid hsq
          have HXJ := hid hx
          clear hs hx hnel hsq hle hlt2 hcl hlr hgs hl24
          go_upto_region 9 with (fail)
          clear e2
          by_cases hin : sq = false ∧ A2 = false ∧ s ∈ ls2
          · obtain ⟨rfl, rfl, hmem⟩ := hin
            have HMEM := hid hmem
            have HDEC := hid (decide_eq_true hmem)
            clear hmem
            refine Rg.wp_region_facts 20 Grew [(35, Rg.Ex (.slice (some ⟨gs, 0, none⟩) ns.length ns.length)), (36, Rg.Ex (.int .i64 (j : Int))), (37, Rg.Ex (.pointer (some ⟨gs, j, none⟩))), (38, Rg.Ex (.bool false)), (39, Rg.Ex (.bool true)), (40, Rg.Ex (.bool true)), (41, Rg.Ex (.pointer (some ⟨g5, 1, none⟩))), (42, Rg.Ex (.bool false)), (43, Rg.Ex (.bool true)), (44, Rg.Ex (.bool true)), (45, Rg.Ex (.bool true)), (46, Rg.Ex (.pointer (some ⟨g5, 0, none⟩))), (47, Rg.Ex (.slice a2 ls2.length c2)), (48, Rg.Ex (.pointer (some ⟨w.heap.size, 2, none⟩))), (49, Rg.Ex (.slice (some ⟨gn, on, none⟩) ns.length cn)), (50, Rg.Ex (.int .i64 (j : Int))), (51, Rg.Ex (.pointer (some ⟨gn, on + j, none⟩))), (52, Rg.Ex (St s)), (53, Rg.Ex (.bool true)), (54, Rg.Ex (.bool true))] (by kernel_rfl) (by kernel_rfl) (by rfl) (by rfl)
              (fun a => Fr.refl _ a) (fun a b c h k => h.trans k (fun _ _ f => f)) (Fr.refl _ _).drew
              (Rg.Stays.all ⟨Rg.Ex.stays _, Rg.Ex.stays _, Rg.Ex.stays _, Rg.Ex.stays _, Rg.Ex.stays _, Rg.Ex.stays _, Rg.Ex.stays _, Rg.Ex.stays _, Rg.Ex.stays _, Rg.Ex.stays _, Rg.Ex.stays _, Rg.Ex.stays _, Rg.Ex.stays _, Rg.Ex.stays _, Rg.Ex.stays _, Rg.Ex.stays _, Rg.Ex.stays _, Rg.Ex.stays _, Rg.Ex.stays _, Rg.Ex.stays _, trivial⟩) ?_ ?_
            · go_light
              refine Rg.OpGoals.cons (Rg.OpGoal.plain rfl ?_) (Rg.OpGoals.cons (Rg.OpGoal.plain rfl ?_) (Rg.OpGoals.cons (Rg.OpGoal.plain rfl ?_) (Rg.OpGoals.cons (Rg.OpGoal.plain rfl ?_) (Rg.OpGoals.cons (Rg.OpGoal.plain rfl ?_) (Rg.OpGoals.cons (Rg.OpGoal.plain rfl ?_) (Rg.OpGoals.cons (Rg.OpGoal.guarded (d := 40) (want := true) rfl (fun _ _ h => h) ?_) (Rg.OpGoals.cons (Rg.OpGoal.guarded (d := 40) (want := true) rfl (fun _ _ h => h) ?_) (Rg.OpGoals.cons (Rg.OpGoal.guarded (d := 40) (want := true) rfl (fun _ _ h => h) ?_) (Rg.OpGoals.cons (Rg.OpGoal.plain rfl ?_) (Rg.OpGoals.cons (Rg.OpGoal.plain rfl ?_) (Rg.OpGoals.cons (Rg.OpGoal.guarded (d := 45) (want := true) rfl (fun _ _ h => h) ?_) (Rg.OpGoals.cons (Rg.OpGoal.guarded (d := 45) (want := true) rfl (fun _ _ h => h) ?_) (Rg.OpGoals.cons (Rg.OpGoal.guarded (d := 45) (want := true) rfl (fun _ _ h => h) ?_) (Rg.OpGoals.cons (Rg.OpGoal.guarded (d := 45) (want := true) rfl (fun _ _ h => h) ?_) (Rg.OpGoals.cons (Rg.OpGoal.guarded (d := 45) (want := true) rfl (fun _ _ h => h) ?_) (Rg.OpGoals.cons (Rg.OpGoal.guarded (d := 45) (want := true) rfl (fun _ _ h => h) ?_) (Rg.OpGoals.cons (Rg.OpGoal.guarded (d := 45) (want := true) rfl (fun _ _ h => h) ?_) (Rg.OpGoals.cons (Rg.OpGoal.guarded (d := 45) (want := true) rfl (fun _ _ h => h) ?_) (Rg.OpGoals.cons (Rg.OpGoal.plain rfl ?_) Rg.OpGoals.none)))))))))))))))))))
              all_goals (intro a' w' hS hR; simp [Rg.Rd, Op.operands, Call.operands, Rg.Fk, Rg.Ex] at hR)
              all_goals (have bq' := hS.cell HBQ.out (fun f => f))
              all_goals (have o1' := hS.cell HO.out.2 (fun f => f))
              all_goals (have o0' := hS.cell HO.out.1 (fun f => f))
              all_goals (have e2' := hS.cell HE2.out (fun f => f))
              all_goals (have n0' := hS.cell HN0.out (fun f => f))
              all_goals try (simp [Rg.Yields, execOp, Act.eval, hR, bq', o1', o0', e2', n0', hjl, go_sem, Rg.Fk, Rg.Ex, Fr.refl]; done)
              · simp [Rg.Yields, Act.eval, hR, go_sem, Rg.Fk, Rg.Ex]
                refine (in_any (HLR2.out.rs.nm.grew hS) s).mono ?_
                rintro e w2 ⟨rfl, rfl⟩
                exact ⟨_, rfl, by rw [HDEC.out], Fr.refl _ _⟩
            · intro w8 hS
              rintro _ rfl _ rfl _ rfl _ rfl _ rfl _ rfl _ rfl _ rfl _ rfl _ rfl _ rfl _ rfl _ rfl _ rfl _ rfl _ rfl _ rfl _ rfl _ rfl _ rfl
              refine Rg.Then.nil ?_
              have HLR8 := hid (HLR2.out.grew hS)
              have HLW8 := hid (HLR2.out.leftW hS)
              have HG8 := hid hS
              clear hS
              have hlr := HLR8.out
              have hA : ¬ dO2.all := fun z => by have := hlr.rs.all.2 z; cases this
              have hm : dO2.mem s := (hlr.rs.mem rfl s).1 HMEM.out
              have hgs := HGS.out
              have hl24 := HL24.out
              have fq : w8.frozen? ⟨gs, j, none⟩ = false := frozen_of_get hlr.bs j
              have bq := hlr.bs.cell HSQ.out
              obtain ⟨W9, hW9⟩ : ∃ z : World, z = w8.setCell ⟨gs, j, none⟩ (.bool true) := ⟨_, rfl⟩
              have hset9 : Fr (fun c => c = gs) w8 W9 := by rw [hW9]; exact (Fr.refl (fun c => c = gs) _).setCell (p := ⟨gs, j, none⟩) (fun _ => rfl) _
              have HBS9 := hid (show Bs W9 gs (sl2.set j true) by rw [hW9]; exact hlr.bs.set j true)
              have ho9 := hset9.get hlr.out (by omega)
              have HO7 := hid ho9
              have HO9 := hid (And.intro (cell_of_get ho9 0) (cell_of_get ho9 1))
              have HE9 := hid (hset9.cell (hlr.fr.cell HE37.out (by show ¬ (w.heap.size = g5 ∨ w.heap.size = gs); omega)) (by show ¬ (w.heap.size = gs); omega))
              have hg09 : Grew w0 W9 := (HG0.out.trans HG8.out (fun _ _ f => f)).trans hset9 (fun c hc e => by have := hw0.out; omega)
              obtain ⟨an3, cn3, aa3, ca3, he, hc⟩ := HEL.out j x HXJ.out
              have HC := hid (And.intro (hg09.cell he.c0 (fun f => f)) (And.intro (hg09.cell he.c1 (fun f => f)) (And.intro (hg09.cell he.c2 (fun f => f)) (hg09.cell he.c3 (fun f => f)))))
              have HDX := hid (fun (W' : World) (k : Grew W9 W') => hc W' (hg09.trans k (fun _ _ f => f)))
              have HRS := hid (hlr.mark hset9)
              have HIN := hid hlr.ins
              have HINX := hid (HU.out x (List.mem_of_getElem? HXJ.out))
              have HLI := hid (hlr.li.step HPJ.out hm hA)
              have HFR9 := hid (hlr.fr.trans hset9 (fun _ _ e => .inr e))
              have HLW3 := hid (show leftW wr gs = left8 sl2 from HLR2.out.bs.left)
              have hj1 : (j : Int) < (ns.length : Int) + 1 := by omega
              clear hlr hA hm hgs hl24 hset9 ho9 hg09 he hc
              go_upto_region 11 with (fail)
              rw [← hW9]
              clear hW9 fq bq
              refine Rg.wp_region_facts 9 Grew [(58, Rg.Ex (.agg #[.slice a2 ls2.length c2, .bool false])), (59, Rg.Ex (.pointer (some ⟨w.heap.size, 3, none⟩))), (60, Rg.Ex (.slice (some ⟨g, o, none⟩) (ns.length + 1) cap)), (61, Rg.Ex (.int .i64 (j : Int))), (62, Rg.Ex (.pointer (some ⟨g, o + j * 4, none⟩))), (63, Rg.Ex (.agg #[Kv x.kind, St x.text, .slice an3 x.names.length cn3, .slice aa3 x.parts.length ca3])), (64, Rg.Ex (.slice aN nl.length cN)), (65, FR8 (dem nl x)), (66, FR8 (dO2.un (dem nl x)))] (by kernel_rfl) (by kernel_rfl) (by rfl) (by rfl)
                (fun a => Fr.refl _ a) (fun a b c h k => h.trans k (fun _ _ f => f)) (Fr.refl _ _).drew
                (Rg.Stays.all ⟨Rg.Ex.stays _, Rg.Ex.stays _, Rg.Ex.stays _, Rg.Ex.stays _, Rg.Ex.stays _, Rg.Ex.stays _, Rg.Ex.stays _, FR8.stays _, FR8.stays _, trivial⟩) ?_ ?_
              · go_light
                refine Rg.OpGoals.cons (Rg.OpGoal.plain rfl ?_) (Rg.OpGoals.cons (Rg.OpGoal.plain rfl ?_) (Rg.OpGoals.cons (Rg.OpGoal.plain rfl ?_) (Rg.OpGoals.cons (Rg.OpGoal.plain rfl ?_) (Rg.OpGoals.cons (Rg.OpGoal.plain rfl ?_) (Rg.OpGoals.cons (Rg.OpGoal.plain rfl ?_) (Rg.OpGoals.cons (Rg.OpGoal.plain rfl ?_) (Rg.OpGoals.cons (Rg.OpGoal.plain rfl ?_) (Rg.OpGoals.cons (Rg.OpGoal.plain rfl ?_) Rg.OpGoals.none))))))))
                all_goals (intro a' w' hS hR; simp [Rg.Rd, Op.operands, Call.operands, Rg.Fk, Rg.Ex] at hR)
                all_goals (have o0' := hS.cell HO9.out.1 (fun f => f))
                all_goals (have o1' := hS.cell HO9.out.2 (fun f => f))
                all_goals (have e3' := hS.cell HE9.out (fun f => f))
                all_goals (have c0' := hS.cell HC.out.1 (fun f => f))
                all_goals (have c1' := hS.cell HC.out.2.1 (fun f => f))
                all_goals (have c2' := hS.cell HC.out.2.2.1 (fun f => f))
                all_goals (have c3' := hS.cell HC.out.2.2.2 (fun f => f))
                all_goals try (simp [Rg.Yields, execOp, Act.eval, hR, o0', o1', e3', c0', c1', c2', c3', hj1, go_sem, Rg.Fk, Rg.Ex, Fr.refl]; done)
                · simp [Rg.Yields, Act.eval, hR, go_sem, Rg.Fk, Rg.Ex]
                  refine (HDX.out _ hS).mono ?_
                  rintro e w2 ⟨r, rfl, h1, h2⟩
                  exact ⟨r, rfl, h1, h2⟩
                · obtain ⟨e1, h2⟩ := hR
                  obtain ⟨b2, n2, c2, A2, e2⟩ := RD.shape h2
                  have h2' : RD w' _ _ := h2
                  rw [e2] at h2'
                  simp [Rg.Yields, Act.eval, e1, e2, go_sem, Rg.Fk, Rg.Ex]
                  refine (rboth_any (show RD w' _ _ from ⟨_, _, _, _, rfl, HRS.out.kept hS⟩) h2' HIN.out HINX.out HUL.out).mono ?_
                  rintro e w2 ⟨r, rfl, h3, h4⟩
                  exact ⟨r, rfl, h3, h4⟩
              · intro w10 hS
                rintro _ rfl _ rfl _ rfl _ rfl _ rfl _ rfl _ rfl v65 h65 v66 h66
                refine Rg.Then.nil ?_
                clear h65
                obtain ⟨a8, c8, A8, l8, rfl, h66'⟩ := h66
                have hq := hS.get HO7.out (fun f => f)
                obtain ⟨k0, k1⟩ := And.intro (cell_of_get hq 0) (cell_of_get hq 1)
                obtain ⟨f0, f1⟩ := And.intro (frozen_of_get hq 0) (frozen_of_get hq 1)
                have hset := set2_fr w10 g5 (.slice a8 l8.length c8) (.bool A8)
                have hgs := HGS.out
                have hbs := (HBS9.out.kept hS (fun f => f)).kept hset (by omega)
                have HLF := hid (show LR W7 (vss l) g5 gs (dem nl y) ps (sl2.set j true) (dO2.un (dem nl x)) a8 c8 A8 l8 (set2 w10 g5 (.slice a8 l8.length c8) (.bool A8)) from
                  ⟨set2_heap hq _ _, RS.set h66' hq hset, hbs, HLI.out, HIN.out.un HINX.out, (HFR9.out.trans (Grew.any hS) (fun _ _ e => e)).trans hset (fun _ _ e => .inl e)⟩)
                have HLL3 := hid (show leftW ((w10.setCell ⟨g5, 0, none⟩ (.slice a8 l8.length c8)).setCell ⟨g5, 1, none⟩ (.bool A8)) gs + 1 = leftW wr gs by rw [hbs.left, HLW3.out]; exact left8_set HSQ.out)
                clear h66' hq hset hgs hbs hS
                go_wp2
                go_roundw
                case rel => exact ⟨true, sl2.set j true, dO2.un (dem nl x), a8, c8, A8, l8, j + 1, rfl, by go_num, by omega, HLF.out, (by have := HLL3.out; have := HLE.out; omega), (fun _ => by have := HLL3.out; have := HLE.out; omega), (fun e => by cases e)⟩
                case measure => simp [intOf]; omega
          · have HCL3 := hid (fun (e : ag = false) => cl_succ (HCL2.out e) HPJ.out (fun hA hm => by
              have hAf : A2 = false := by
                cases h : A2
                · rfl
                · exact absurd (HLR2.out.rs.all.1 h) hA
              cases sq
              · exact absurd ⟨rfl, hAf, (HLR2.out.rs.mem hAf s).2 hm⟩ hin
              · exact HSQ.out))
            cases sq
            case true =>
              clear hin
              refine Rg.wp_region_facts 20 Grew [(35, Rg.Ex (.slice (some ⟨gs, 0, none⟩) ns.length ns.length)), (36, Rg.Ex (.int .i64 (j : Int))), (37, Rg.Ex (.pointer (some ⟨gs, j, none⟩))), (38, Rg.Ex (.bool true)), (39, Rg.Ex (.bool false)), (40, Rg.Ex (.bool false)), (41, Rg.Ex (undef)), (42, Rg.Ex (undef)), (43, Rg.Ex (undef)), (44, Rg.Ex (.bool false)), (45, Rg.Ex (.bool false)), (46, Rg.Ex (undef)), (47, Rg.Ex (undef)), (48, Rg.Ex (undef)), (49, Rg.Ex (undef)), (50, Rg.Ex (undef)), (51, Rg.Ex (undef)), (52, Rg.Ex (undef)), (53, Rg.Ex (undef)), (54, Rg.Ex (.bool false))] (by kernel_rfl) (by kernel_rfl) (by rfl) (by rfl)
                (fun a => Fr.refl _ a) (fun a b c h k => h.trans k (fun _ _ f => f)) (Fr.refl _ _).drew
                (Rg.Stays.all ⟨Rg.Ex.stays _, Rg.Ex.stays _, Rg.Ex.stays _, Rg.Ex.stays _, Rg.Ex.stays _, Rg.Ex.stays _, Rg.Ex.stays _, Rg.Ex.stays _, Rg.Ex.stays _, Rg.Ex.stays _, Rg.Ex.stays _, Rg.Ex.stays _, Rg.Ex.stays _, Rg.Ex.stays _, Rg.Ex.stays _, Rg.Ex.stays _, Rg.Ex.stays _, Rg.Ex.stays _, Rg.Ex.stays _, Rg.Ex.stays _, trivial⟩) ?_ ?_
              · go_light
                refine Rg.OpGoals.cons (Rg.OpGoal.plain rfl ?_) (Rg.OpGoals.cons (Rg.OpGoal.plain rfl ?_) (Rg.OpGoals.cons (Rg.OpGoal.plain rfl ?_) (Rg.OpGoals.cons (Rg.OpGoal.plain rfl ?_) (Rg.OpGoals.cons (Rg.OpGoal.plain rfl ?_) (Rg.OpGoals.cons (Rg.OpGoal.plain rfl ?_) (Rg.OpGoals.cons (Rg.OpGoal.passed (d := 40) (want := true) rfl (fun _ _ h e => nomatch (h.symm.trans e)) (fun _ _ h => by cases h; rfl)) (Rg.OpGoals.cons (Rg.OpGoal.passed (d := 40) (want := true) rfl (fun _ _ h e => nomatch (h.symm.trans e)) (fun _ _ h => by cases h; rfl)) (Rg.OpGoals.cons (Rg.OpGoal.passed (d := 40) (want := true) rfl (fun _ _ h e => nomatch (h.symm.trans e)) (fun _ _ h => by cases h; rfl)) (Rg.OpGoals.cons (Rg.OpGoal.plain rfl ?_) (Rg.OpGoals.cons (Rg.OpGoal.plain rfl ?_) (Rg.OpGoals.cons (Rg.OpGoal.passed (d := 45) (want := true) rfl (fun _ _ h e => nomatch (h.symm.trans e)) (fun _ _ h => by cases h; rfl)) (Rg.OpGoals.cons (Rg.OpGoal.passed (d := 45) (want := true) rfl (fun _ _ h e => nomatch (h.symm.trans e)) (fun _ _ h => by cases h; rfl)) (Rg.OpGoals.cons (Rg.OpGoal.passed (d := 45) (want := true) rfl (fun _ _ h e => nomatch (h.symm.trans e)) (fun _ _ h => by cases h; rfl)) (Rg.OpGoals.cons (Rg.OpGoal.passed (d := 45) (want := true) rfl (fun _ _ h e => nomatch (h.symm.trans e)) (fun _ _ h => by cases h; rfl)) (Rg.OpGoals.cons (Rg.OpGoal.passed (d := 45) (want := true) rfl (fun _ _ h e => nomatch (h.symm.trans e)) (fun _ _ h => by cases h; rfl)) (Rg.OpGoals.cons (Rg.OpGoal.passed (d := 45) (want := true) rfl (fun _ _ h e => nomatch (h.symm.trans e)) (fun _ _ h => by cases h; rfl)) (Rg.OpGoals.cons (Rg.OpGoal.passed (d := 45) (want := true) rfl (fun _ _ h e => nomatch (h.symm.trans e)) (fun _ _ h => by cases h; rfl)) (Rg.OpGoals.cons (Rg.OpGoal.passed (d := 45) (want := true) rfl (fun _ _ h e => nomatch (h.symm.trans e)) (fun _ _ h => by cases h; rfl)) (Rg.OpGoals.cons (Rg.OpGoal.plain rfl ?_) Rg.OpGoals.none)))))))))))))))))))
                all_goals (intro a' w' hS hR; simp [Rg.Rd, Op.operands, Rg.Fk, Rg.Ex] at hR)
                all_goals (have bq' := hS.cell HBQ.out (fun f => f))
                all_goals try (simp [Rg.Yields, execOp, Act.eval, hR, bq', hjl, go_sem, Rg.Fk, Rg.Ex, Fr.refl]; done)
              · intro w8 hS
                rintro _ rfl _ rfl _ rfl _ rfl _ rfl _ rfl _ rfl _ rfl _ rfl _ rfl _ rfl _ rfl _ rfl _ rfl _ rfl _ rfl _ rfl _ rfl _ rfl _ rfl
                refine Rg.Then.nil ?_
                have HLR8 := hid (HLR2.out.grew hS)
                have HLW8 := hid (HLR2.out.leftW hS)
                clear hS
                go_wp2
                go_roundw
                case rel => exact ⟨ag, sl2, dO2, a2, c2, _, ls2, j + 1, rfl, by go_num, by omega, HLR8.out, (by rw [HLW8.out]; exact HLE.out), (fun e => by rw [HLW8.out]; exact HLT.out e), HCL3.out⟩
                case measure => simp [intOf]; omega
            case false =>
              cases A2
              case true =>
                clear hin
                refine Rg.wp_region_facts 20 Grew [(35, Rg.Ex (.slice (some ⟨gs, 0, none⟩) ns.length ns.length)), (36, Rg.Ex (.int .i64 (j : Int))), (37, Rg.Ex (.pointer (some ⟨gs, j, none⟩))), (38, Rg.Ex (.bool false)), (39, Rg.Ex (.bool true)), (40, Rg.Ex (.bool true)), (41, Rg.Ex (.pointer (some ⟨g5, 1, none⟩))), (42, Rg.Ex (.bool true)), (43, Rg.Ex (.bool false)), (44, Rg.Ex (.bool false)), (45, Rg.Ex (.bool false)), (46, Rg.Ex (undef)), (47, Rg.Ex (undef)), (48, Rg.Ex (undef)), (49, Rg.Ex (undef)), (50, Rg.Ex (undef)), (51, Rg.Ex (undef)), (52, Rg.Ex (undef)), (53, Rg.Ex (undef)), (54, Rg.Ex (.bool false))] (by kernel_rfl) (by kernel_rfl) (by rfl) (by rfl)
                  (fun a => Fr.refl _ a) (fun a b c h k => h.trans k (fun _ _ f => f)) (Fr.refl _ _).drew
                  (Rg.Stays.all ⟨Rg.Ex.stays _, Rg.Ex.stays _, Rg.Ex.stays _, Rg.Ex.stays _, Rg.Ex.stays _, Rg.Ex.stays _, Rg.Ex.stays _, Rg.Ex.stays _, Rg.Ex.stays _, Rg.Ex.stays _, Rg.Ex.stays _, Rg.Ex.stays _, Rg.Ex.stays _, Rg.Ex.stays _, Rg.Ex.stays _, Rg.Ex.stays _, Rg.Ex.stays _, Rg.Ex.stays _, Rg.Ex.stays _, Rg.Ex.stays _, trivial⟩) ?_ ?_
                · go_light
                  refine Rg.OpGoals.cons (Rg.OpGoal.plain rfl ?_) (Rg.OpGoals.cons (Rg.OpGoal.plain rfl ?_) (Rg.OpGoals.cons (Rg.OpGoal.plain rfl ?_) (Rg.OpGoals.cons (Rg.OpGoal.plain rfl ?_) (Rg.OpGoals.cons (Rg.OpGoal.plain rfl ?_) (Rg.OpGoals.cons (Rg.OpGoal.plain rfl ?_) (Rg.OpGoals.cons (Rg.OpGoal.guarded (d := 40) (want := true) rfl (fun _ _ h => h) ?_) (Rg.OpGoals.cons (Rg.OpGoal.guarded (d := 40) (want := true) rfl (fun _ _ h => h) ?_) (Rg.OpGoals.cons (Rg.OpGoal.guarded (d := 40) (want := true) rfl (fun _ _ h => h) ?_) (Rg.OpGoals.cons (Rg.OpGoal.plain rfl ?_) (Rg.OpGoals.cons (Rg.OpGoal.plain rfl ?_) (Rg.OpGoals.cons (Rg.OpGoal.passed (d := 45) (want := true) rfl (fun _ _ h e => nomatch (h.symm.trans e)) (fun _ _ h => by cases h; rfl)) (Rg.OpGoals.cons (Rg.OpGoal.passed (d := 45) (want := true) rfl (fun _ _ h e => nomatch (h.symm.trans e)) (fun _ _ h => by cases h; rfl)) (Rg.OpGoals.cons (Rg.OpGoal.passed (d := 45) (want := true) rfl (fun _ _ h e => nomatch (h.symm.trans e)) (fun _ _ h => by cases h; rfl)) (Rg.OpGoals.cons (Rg.OpGoal.passed (d := 45) (want := true) rfl (fun _ _ h e => nomatch (h.symm.trans e)) (fun _ _ h => by cases h; rfl)) (Rg.OpGoals.cons (Rg.OpGoal.passed (d := 45) (want := true) rfl (fun _ _ h e => nomatch (h.symm.trans e)) (fun _ _ h => by cases h; rfl)) (Rg.OpGoals.cons (Rg.OpGoal.passed (d := 45) (want := true) rfl (fun _ _ h e => nomatch (h.symm.trans e)) (fun _ _ h => by cases h; rfl)) (Rg.OpGoals.cons (Rg.OpGoal.passed (d := 45) (want := true) rfl (fun _ _ h e => nomatch (h.symm.trans e)) (fun _ _ h => by cases h; rfl)) (Rg.OpGoals.cons (Rg.OpGoal.passed (d := 45) (want := true) rfl (fun _ _ h e => nomatch (h.symm.trans e)) (fun _ _ h => by cases h; rfl)) (Rg.OpGoals.cons (Rg.OpGoal.plain rfl ?_) Rg.OpGoals.none)))))))))))))))))))
                  all_goals (intro a' w' hS hR; simp [Rg.Rd, Op.operands, Rg.Fk, Rg.Ex] at hR)
                  all_goals (have bq' := hS.cell HBQ.out (fun f => f))
                  all_goals (have o1' := hS.cell HO.out.2 (fun f => f))
                  all_goals try (simp [Rg.Yields, execOp, Act.eval, hR, bq', o1', hjl, go_sem, Rg.Fk, Rg.Ex, Fr.refl]; done)
                · intro w8 hS
                  rintro _ rfl _ rfl _ rfl _ rfl _ rfl _ rfl _ rfl _ rfl _ rfl _ rfl _ rfl _ rfl _ rfl _ rfl _ rfl _ rfl _ rfl _ rfl _ rfl _ rfl
                  refine Rg.Then.nil ?_
                  have HLR8 := hid (HLR2.out.grew hS)
                  have HLW8 := hid (HLR2.out.leftW hS)
                  clear hS
                  go_wp2
                  go_roundw
                  case rel => exact ⟨ag, sl2, dO2, a2, c2, _, ls2, j + 1, rfl, by go_num, by omega, HLR8.out, (by rw [HLW8.out]; exact HLE.out), (fun e => by rw [HLW8.out]; exact HLT.out e), HCL3.out⟩
                  case measure => simp [intOf]; omega
              case false =>
                have HDEC := hid (decide_eq_false (p := s ∈ ls2) (fun h => hin ⟨rfl, rfl, h⟩))
                clear hin
                refine Rg.wp_region_facts 20 Grew [(35, Rg.Ex (.slice (some ⟨gs, 0, none⟩) ns.length ns.length)), (36, Rg.Ex (.int .i64 (j : Int))), (37, Rg.Ex (.pointer (some ⟨gs, j, none⟩))), (38, Rg.Ex (.bool false)), (39, Rg.Ex (.bool true)), (40, Rg.Ex (.bool true)), (41, Rg.Ex (.pointer (some ⟨g5, 1, none⟩))), (42, Rg.Ex (.bool false)), (43, Rg.Ex (.bool true)), (44, Rg.Ex (.bool true)), (45, Rg.Ex (.bool true)), (46, Rg.Ex (.pointer (some ⟨g5, 0, none⟩))), (47, Rg.Ex (.slice a2 ls2.length c2)), (48, Rg.Ex (.pointer (some ⟨w.heap.size, 2, none⟩))), (49, Rg.Ex (.slice (some ⟨gn, on, none⟩) ns.length cn)), (50, Rg.Ex (.int .i64 (j : Int))), (51, Rg.Ex (.pointer (some ⟨gn, on + j, none⟩))), (52, Rg.Ex (St s)), (53, Rg.Ex (.bool false)), (54, Rg.Ex (.bool false))] (by kernel_rfl) (by kernel_rfl) (by rfl) (by rfl)
                  (fun a => Fr.refl _ a) (fun a b c h k => h.trans k (fun _ _ f => f)) (Fr.refl _ _).drew
                  (Rg.Stays.all ⟨Rg.Ex.stays _, Rg.Ex.stays _, Rg.Ex.stays _, Rg.Ex.stays _, Rg.Ex.stays _, Rg.Ex.stays _, Rg.Ex.stays _, Rg.Ex.stays _, Rg.Ex.stays _, Rg.Ex.stays _, Rg.Ex.stays _, Rg.Ex.stays _, Rg.Ex.stays _, Rg.Ex.stays _, Rg.Ex.stays _, Rg.Ex.stays _, Rg.Ex.stays _, Rg.Ex.stays _, Rg.Ex.stays _, Rg.Ex.stays _, trivial⟩) ?_ ?_
                · go_light
                  refine Rg.OpGoals.cons (Rg.OpGoal.plain rfl ?_) (Rg.OpGoals.cons (Rg.OpGoal.plain rfl ?_) (Rg.OpGoals.cons (Rg.OpGoal.plain rfl ?_) (Rg.OpGoals.cons (Rg.OpGoal.plain rfl ?_) (Rg.OpGoals.cons (Rg.OpGoal.plain rfl ?_) (Rg.OpGoals.cons (Rg.OpGoal.plain rfl ?_) (Rg.OpGoals.cons (Rg.OpGoal.guarded (d := 40) (want := true) rfl (fun _ _ h => h) ?_) (Rg.OpGoals.cons (Rg.OpGoal.guarded (d := 40) (want := true) rfl (fun _ _ h => h) ?_) (Rg.OpGoals.cons (Rg.OpGoal.guarded (d := 40) (want := true) rfl (fun _ _ h => h) ?_) (Rg.OpGoals.cons (Rg.OpGoal.plain rfl ?_) (Rg.OpGoals.cons (Rg.OpGoal.plain rfl ?_) (Rg.OpGoals.cons (Rg.OpGoal.guarded (d := 45) (want := true) rfl (fun _ _ h => h) ?_) (Rg.OpGoals.cons (Rg.OpGoal.guarded (d := 45) (want := true) rfl (fun _ _ h => h) ?_) (Rg.OpGoals.cons (Rg.OpGoal.guarded (d := 45) (want := true) rfl (fun _ _ h => h) ?_) (Rg.OpGoals.cons (Rg.OpGoal.guarded (d := 45) (want := true) rfl (fun _ _ h => h) ?_) (Rg.OpGoals.cons (Rg.OpGoal.guarded (d := 45) (want := true) rfl (fun _ _ h => h) ?_) (Rg.OpGoals.cons (Rg.OpGoal.guarded (d := 45) (want := true) rfl (fun _ _ h => h) ?_) (Rg.OpGoals.cons (Rg.OpGoal.guarded (d := 45) (want := true) rfl (fun _ _ h => h) ?_) (Rg.OpGoals.cons (Rg.OpGoal.guarded (d := 45) (want := true) rfl (fun _ _ h => h) ?_) (Rg.OpGoals.cons (Rg.OpGoal.plain rfl ?_) Rg.OpGoals.none)))))))))))))))))))
                  all_goals (intro a' w' hS hR; simp [Rg.Rd, Op.operands, Call.operands, Rg.Fk, Rg.Ex] at hR)
                  all_goals (have bq' := hS.cell HBQ.out (fun f => f))
                  all_goals (have o1' := hS.cell HO.out.2 (fun f => f))
                  all_goals (have o0' := hS.cell HO.out.1 (fun f => f))
                  all_goals (have e2' := hS.cell HE2.out (fun f => f))
                  all_goals (have n0' := hS.cell HN0.out (fun f => f))
                  all_goals try (simp [Rg.Yields, execOp, Act.eval, hR, bq', o1', o0', e2', n0', hjl, go_sem, Rg.Fk, Rg.Ex, Fr.refl]; done)
                  · simp [Rg.Yields, Act.eval, hR, go_sem, Rg.Fk, Rg.Ex]
                    refine (in_any (HLR2.out.rs.nm.grew hS) s).mono ?_
                    rintro e w2 ⟨rfl, rfl⟩
                    exact ⟨_, rfl, by rw [HDEC.out], Fr.refl _ _⟩
                · intro w8 hS
                  rintro _ rfl _ rfl _ rfl _ rfl _ rfl _ rfl _ rfl _ rfl _ rfl _ rfl _ rfl _ rfl _ rfl _ rfl _ rfl _ rfl _ rfl _ rfl _ rfl _ rfl
                  refine Rg.Then.nil ?_
                  have HLR8 := hid (HLR2.out.grew hS)
                  have HLW8 := hid (HLR2.out.leftW hS)
                  clear hS
                  go_wp2
                  go_roundw
                  case rel => exact ⟨ag, sl2, dO2, a2, c2, _, ls2, j + 1, rfl, by go_num, by omega, HLR8.out, (by rw [HLW8.out]; exact HLE.out), (fun e => by rw [HLW8.out]; exact HLT.out e), HCL3.out⟩
                  case measure => simp [intOf]; omega
        · obtain rfl : j = ns.length := by omega
          clear hlr hle hlt2 hcl hgs hl24
          go_wp2
          go_roundw
          case rel => exact ⟨ag, sl2, dO2, a2, c2, A2, ls2, rfl, HLR2.out, HCL2.out⟩
          case measure =>
            have h1 := HLE.out
            have h2 := HLT.out
            cases ag
            · simp; omega
            · have := h2 rfl
              simp; omega
    · have hdone := hlr.li.done (fun hA i n d hp hm => by
        have hAf : A = false := by
          cases h : A
          · rfl
          · exact absurd (hlr.rs.all.1 h) hA
        have hag : ag = false := by
          cases h : ag
          · rfl
          · exact absurd ⟨h, hAf⟩ hgo
        exact hcl hag hA i n d (by have := (List.getElem?_eq_some_iff.1 hp).1; have := HPL.out; omega) hp hm)
      have HDN := hid hdone
      have hlen : ls.length ≤ 900000 := by have := hlr.ins.len hlr.rs; have := HUL.out; omega
      have HG0 := hid (show Grew w0 wr from HG07.out.trans hlr.fr (fun c hc e => by
        have h1 := hw0.out
        omega))
      have hcall := without_any hlr.rs.nm (HNM.out.grew HG0.out) hlen
      have HO := hid hlr.out
      have HRW := hid (hlr.fr.get HR7.out (by omega))
      have HGW := hid (show Grew w wr from HG7.out.trans hlr.fr (fun c hc e => by omega))
      have HSO := hid hlr.rs
      clear hdone hlr hcl hgs hl24 hlen
      have hpm : ps.map (·.1) = ns := by rw [HPS.out]; exact List.map_fst_zip (by rw [dems_length, HLL.out]; omega)
      have HPM := hid hpm
      clear hpm
      have HFIN := hid (fun (v9 : Value) (w9 : World) (hrt : Rt wr.heap.size w9 v9 (wo ls ns)) (hg9 : Grew wr w9) => show ∃ a9 c9, v9 = .slice a9 (wo ls ns).length c9 ∧ RS w9 a9 c9 A (wo ls ns) dR from by
        have hn := nm_of_rt hrt
        obtain ⟨a9, c9, rfl, -⟩ := hn.shape
        refine ⟨a9, c9, rfl, hn.mono (fun _ _ f => f.elim), HSO.out.so.sublist List.filter_sublist, HSO.out.nd.sublist List.filter_sublist, ?_, fun q => by rw [HSO.out.no q]; rfl, fun q s => ?_⟩
        · rw [HSO.out.all, HDR.out, HDN.out.1]
        · have hA : ¬ dO.all := fun z => by rw [HSO.out.all.2 z] at q; cases q
          rw [HDR.out]
          show s ∈ List.filter _ _ ↔ (Rch (dem nl y) ps s ∧ s ∉ ps.map (·.1))
          rw [List.mem_filter, HPM.out, HSO.out.mem q s, HDN.out.2 hA s]
          simp)
      have hgo2 : ag = false ∨ (ag = true ∧ A = true) := by cases ag <;> cases A <;> simp_all
      clear hgo
      have hmain : ∀ (v9 : Value) (w9 : World), Rt wr.heap.size w9 v9 (wo ls ns) → Grew wr w9 → ∃ a9 c9, v9 = .slice a9 (wo ls ns).length c9 ∧ DrPost w dR (.returned (.agg #[.slice a9 (wo ls ns).length c9, .bool A])) (set2 (w9.setCell ⟨g5, 0, none⟩ v9) (w.heap.size + 1) (.slice a9 (wo ls ns).length c9) (.bool A)) ∧ w9.heap[g5]? = some (.cells #[.slice a ls.length c, .bool A] 89 (0, 0)) ∧ (w9.setCell ⟨g5, 0, none⟩ v9).heap[g5]? = some (.cells #[v9, .bool A] 89 (0, 0)) ∧ (w9.setCell ⟨g5, 0, none⟩ v9).heap[w.heap.size + 1]? = some (.cells #[.slice none 0 0, .bool false] 89 (0, 0)) := by
        intro v9 w9 hrt9 hg9
        obtain ⟨a9, c9, rfl, hrs9⟩ := HFIN.out v9 w9 hrt9 hg9
        have hq9 := hg9.get HO.out (fun f => f)
        have hset : Fr (fun k => k = g5) w9 (w9.setCell ⟨g5, 0, none⟩ (.slice a9 (wo ls ns).length c9)) := (Fr.refl (fun k => k = g5) _).setCell (p := ⟨g5, 0, none⟩) (fun _ => rfl) _
        have hl24 := HL24.out
        have hr := hset.get (hg9.get HRW.out (fun f => f)) (by omega)
        exact ⟨a9, c9, rfl, dr_done (hrs9.set hq9 hset) ((HGW.out.trans hg9 (fun _ _ f => f)).trans hset (fun k hk e => by omega)) ⟨_, _, _, _, rfl, rfl⟩ hr (by omega), hq9, set1_heap hq9 _, hr⟩
      have HMAIN := hid hmain
      clear hmain
      rcases hgo2 with rfl | ⟨rfl, rfl⟩ <;> (
        go_upto_region 13 with (go_at_call 41; (with_reducible refine hcall.mono ?_); rintro e w9 ⟨v9, rfl, hrt9, hg9⟩; clear hcall o0 o1; obtain ⟨a9, c9, rfl, hpost, hq9, hq10, hr10⟩ := HMAIN.out v9 w9 hrt9 hg9; obtain ⟨k0, k1⟩ := And.intro (cell_of_get hq9 0) (cell_of_get hq9 1); obtain ⟨f0, f1⟩ := And.intro (frozen_of_get hq9 0) (frozen_of_get hq9 1); have HPOST := hid hpost; have HQ10 := hid hq10; have HR10 := hid hr10; clear hpost hq9 hq10 hr10 hrt9 hg9)
        obtain ⟨W10, hW10⟩ : ∃ z : World, z = w9.setCell ⟨g5, 0, none⟩ (.slice a9 (wo ls ns).length c9) := ⟨_, rfl⟩
        rw [← hW10] at HPOST HQ10 HR10 ⊢
        clear hW10 k0 k1 f0 f1 e2
        obtain ⟨o0, o1⟩ := And.intro (cell_of_get HQ10.out 0) (cell_of_get HQ10.out 1)
        obtain ⟨r0, r1⟩ := And.intro (cell_of_get HR10.out 0) (cell_of_get HR10.out 1)
        obtain ⟨y0, y1⟩ := And.intro (frozen_of_get HR10.out 0) (frozen_of_get HR10.out 1)
        go_wp2
        exact bodyPost_ret (v := .agg #[.slice a9 (wo ls ns).length c9, _]) (res89 Try.results78 _ _ (w.heap.size + 1) rfl (set2_heap HR10.out _ _)) rfl HPOST.out)
end Go.Proofs.Ytddcfnjmppijjaa

/-! thunkref8.demands. -/
namespace Go.Proofs.Ytddcfnjmppijjaa
open Go.RowKit

set_option maxHeartbeats 8000000 in
set_option maxRecDepth 100000 in
theorem rdem_core {w0 : World} {D : Nat → Prop} {aN : Option Addr} {cN : Nat} {nl : Ned} {av : Option Addr} {l : List X} {cap : Nat} (H : DrAt w0 D (.slice aN nl.length cN) nl av l) (hnd : Nd w0 (fun _ => False) (.slice aN nl.length cN) nl) (hsz : sizes l ≤ 400000) (hl : l.length ≤ 1000000) (w : World) (hw : Grew w0 w) (k : Int) (t : Str) (vn : Value) (ns : List Str)
    (hnm : Nm w0 (fun b => w0.heap.size ≤ b) vn ns) (h7 : k = 7 → l ≠ []) (h8 : k = 8 → l.length = 3) (h9 : k = 9 → l.length = ns.length + 1) :
    Calls Try.prog 52 #[.agg #[Kv k, St t, vn, .slice av l.length cap], .slice aN nl.length cN] w (DrPost w (demF nl k t ns l (dems nl l))) := by
  obtain ⟨dR, hdR⟩ : ∃ d, d = demF nl k t ns l (dems nl l) := ⟨_, rfl⟩
  rw [← hdR]
  have HDR := hid hdR
  clear hdR
  obtain ⟨W2, hW2⟩ : ∃ q : World, q = (w.alloc (.cells #[Kv k, St t, vn, .slice av l.length cap] 28)).alloc (.cells #[.slice none 0 0, .bool false] 89) := ⟨_, rfl⟩
  have g2 : Grew w W2 := by rw [hW2]; exact ((Fr.refl _ _).alloc _).alloc _
  have hs2 : W2.heap.size = w.heap.size + 2 := by rw [hW2]; simp
  have hbe : W2.heap[w.heap.size]? = some (.cells #[Kv k, St t, vn, .slice av l.length cap] 28 (0, 0)) := by rw [hW2]; exact ((Fr.refl (fun _ => False) _).alloc _).get (heap_alloc_new w _) (fun f => f)
  have hbr : W2.heap[w.heap.size + 1]? = some (.cells #[.slice none 0 0, .bool false] 89 (0, 0)) := by rw [hW2]; exact heap_a2 w _ _
  have HG2 := hid g2
  have HG02 := hid (hw.trans g2 (fun _ _ f => f))
  have HBE := hid hbe
  have HBR := hid hbr
  have HH := hid H
  have HND := hid hnd
  have HNM := hid hnm
  have HS2 := hid hs2
  have hw0 := hid hw.size
  have HU := hid (show ∀ x ∈ l, Ins (vss l) (dem nl x) from fun x hx => by
    obtain ⟨i, hi⟩ := List.mem_iff_getElem?.1 hx
    exact dems_ins nl _ _ (List.mem_of_getElem? (dems_get nl hi)))
  have HUL := hid (show (vss l).length ≤ 400000 by rw [vss_len]; exact hsz)
  have e0 := cell_of_get hbe 0
  obtain ⟨an, cn, rfl, -⟩ := hnm.shape
  clear H hnd hnm g2 hbe hbr hw hs2
  go_enter Try.func52, Try.ntmps52
  by_cases k5 : k = 5
  · subst k5
    have hv := hid (show demF nl 5 t ns l (dems nl l) = DS.on t from rfl)
    have e1 := cell_of_get HBE.out 1
    have HA := hid ((Fr.refl (fun _ => False) W2).alloc (.cells #[St t] 9))
    have HN := hid (nm_one W2 t _ rfl)
    have hr3 := HA.out.get HBR.out (fun f => f)
    obtain ⟨r0, r1⟩ := And.intro (cell_of_get hr3 0) (cell_of_get hr3 1)
    obtain ⟨x0, x1⟩ := And.intro (frozen_of_get hr3 0) (frozen_of_get hr3 1)
    have HR3 := hid hr3
    clear h7 h8 h9 hr3
    go_upto_region 1 with (fail)
    rw [← hW2]
    clear hW2
    go_wp2
    exact bodyPost_ret (v := .agg #[.slice (some ⟨W2.heap.size, 0, none⟩) [t].length 1, .bool false]) (res89 Try.results52 _ _ (w.heap.size + 1) rfl (set2_heap HR3.out _ _)) rfl (dr_done (by rw [HDR.out, hv.out]; exact ⟨HN.out, by simp, by simp, by simp [DS.on], by simp, fun _ s => by simp [DS.on]⟩) (HG2.out.trans HA.out (fun _ _ f => f)) ⟨_, _, _, _, rfl, rfl⟩ HR3.out (by omega))
  by_cases k7 : k = 7
  · subst k7
    obtain ⟨x0, r, rfl⟩ : ∃ x r, l = x :: r := by
      cases l with
      | nil => exact absurd rfl (h7 rfl)
      | cons x r => exact ⟨x, r, rfl⟩
    have hv := hid (show demF nl 7 t ns (x0 :: r) (dems nl (x0 :: r)) = (if (ofs nl x0.kind x0.text).length ≤ (dems nl r).length then (dem nl x0).un (unl (pick (ofs nl x0.kind x0.text) (dems nl r))) else dem nl x0) from rfl)
    have hcall := applied_core (cap := cap) HH.out hsz hl HND.out W2 HG02.out 7 t (.slice an ns.length cn)
    rw [← dems_length nl r] at hcall
    obtain ⟨dA, hdA⟩ : ∃ d, d = (if (ofs nl x0.kind x0.text).length ≤ (dems nl r).length then (dem nl x0).un (unl (pick (ofs nl x0.kind x0.text) (dems nl r))) else dem nl x0) := ⟨_, rfl⟩
    rw [← hdA] at hcall hv
    rw [dems_length nl r] at hcall
    clear hdA
    rw [List.length_cons] at hW2
    replace HBE : Hid (W2.heap[w.heap.size]? = some (.cells #[Kv 7, St t, .slice an ns.length cn, .slice av (r.length + 1) cap] 28 (0, 0))) := HBE
    have HB4 := hid (And.intro (cell_of_get HBE.out 1) (And.intro (cell_of_get HBE.out 2) (cell_of_get HBE.out 3)))
    obtain ⟨e1, e2, e3⟩ := HB4.out
    clear h7 h8 h9
    go_upto_region 1 with (fail)
    rw [← hW2]
    clear hW2
    go_wp2_with (go_at_call 75; (with_reducible refine hcall.mono ?_); rintro e w4 ⟨v, rfl, hrd, hg4⟩; clear hcall; obtain ⟨a4, c4, A4, l4, rfl, hrs⟩ := hrd; have hr4 := hg4.get HBR.out (fun f => f); obtain ⟨r0, r1⟩ := And.intro (cell_of_get hr4 0) (cell_of_get hr4 1); obtain ⟨x0', x1'⟩ := And.intro (frozen_of_get hr4 0) (frozen_of_get hr4 1); have HRS := hid hrs; have HG4 := hid hg4; have HR4 := hid hr4; clear hrs hg4 hr4)
    exact bodyPost_ret (v := .agg #[.slice a4 l4.length c4, .bool A4]) (res89 Try.results52 _ _ (w.heap.size + 1) rfl (set2_heap HR4.out _ _)) rfl (dr_done (by rw [HDR.out, hv.out]; exact HRS.out) (HG2.out.trans HG4.out (fun _ _ f => f)) ⟨_, _, _, _, rfl, rfl⟩ HR4.out (by omega))
  by_cases k8 : k = 8
  · subst k8
    have hl3 := h8 rfl
    obtain ⟨x1, x2, x3, rfl⟩ : ∃ a b c, l = [a, b, c] := by
      match l, hl3 with
      | [a, b, c], _ => exact ⟨a, b, c, rfl⟩
    obtain ⟨g, o, rfl, hel⟩ := HH.out (by simp)
    obtain ⟨an1, cn1, aa1, ca1, he1, hc1⟩ := hel 0 x1 rfl
    obtain ⟨an2, cn2, aa2, ca2, he2, hc2⟩ := hel 1 x2 rfl
    obtain ⟨an3, cn3, aa3, ca3, he3, hc3⟩ := hel 2 x3 rfl
    rw [Nat.zero_mul, Nat.add_zero] at he1
    simp only [Nat.one_mul] at he2
    rw [show o + 2 * 4 = o + 8 by omega] at he3
    have hv := hid (show demF nl 8 t ns [x1, x2, x3] (dems nl [x1, x2, x3]) = (dem nl x1).un ((dem nl x2).mt (dem nl x3)) from rfl)
    have hg := HG02.out
    have HE3 := hid (show W2.cell? ⟨w.heap.size, 3, none⟩ = some (.slice (some ⟨g, o, none⟩) 3 cap) from cell_of_get HBE.out 3)
    have HC1 := hid (And.intro (hg.cell he1.c0 (fun f => f)) (And.intro (hg.cell he1.c1 (fun f => f)) (And.intro (hg.cell he1.c2 (fun f => f)) (hg.cell he1.c3 (fun f => f)))))
    have HC2 := hid (And.intro (hg.cell he2.c0 (fun f => f)) (And.intro (hg.cell he2.c1 (fun f => f)) (And.intro (hg.cell he2.c2 (fun f => f)) (hg.cell he2.c3 (fun f => f)))))
    have HC3 := hid (And.intro (hg.cell he3.c0 (fun f => f)) (And.intro (hg.cell he3.c1 (fun f => f)) (And.intro (hg.cell he3.c2 (fun f => f)) (hg.cell he3.c3 (fun f => f)))))
    have HD1 := hid (fun (W' : World) (k : Grew W2 W') => hc1 W' (hg.trans k (fun _ _ f => f)))
    have HD2 := hid (fun (W' : World) (k : Grew W2 W') => hc2 W' (hg.trans k (fun _ _ f => f)))
    have HD3 := hid (fun (W' : World) (k : Grew W2 W') => hc3 W' (hg.trans k (fun _ _ f => f)))
    have HI1 := hid (HU.out x1 (by simp))
    have HI2 := hid (HU.out x2 (by simp))
    have HI3 := hid (HU.out x3 (by simp))
    replace hW2 : W2 = (w.alloc (.cells #[Kv 8, St t, .slice an ns.length cn, .slice (some ⟨g, o, none⟩) 3 cap] 28)).alloc (.cells #[.slice none 0 0, .bool false] 89) := hW2
    clear h7 h8 h9 hl3 hel he1 he2 he3 hc1 hc2 hc3 hg
    go_upto_region 1 with (fail)
    rw [← hW2]
    clear hW2
    go_upto_region 7 with (fail)
    refine Rg.wp_region_facts 20 Grew [(22, Rg.Ex (.pointer (some ⟨w.heap.size, 3, none⟩))), (23, Rg.Ex (.slice (some ⟨g, o, none⟩) 3 cap)), (24, Rg.Ex (.pointer (some ⟨g, o, none⟩))), (25, Rg.Ex (.agg #[Kv x1.kind, St x1.text, .slice an1 x1.names.length cn1, .slice aa1 x1.parts.length ca1])), (26, Rg.Ex (.slice aN nl.length cN)), (27, FR8 (dem nl x1)), (28, Rg.Ex (.pointer (some ⟨w.heap.size, 3, none⟩))), (29, Rg.Ex (.slice (some ⟨g, o, none⟩) 3 cap)), (30, Rg.Ex (.pointer (some ⟨g, o + 4, none⟩))), (31, Rg.Ex (.agg #[Kv x2.kind, St x2.text, .slice an2 x2.names.length cn2, .slice aa2 x2.parts.length ca2])), (32, Rg.Ex (.slice aN nl.length cN)), (33, FR8 (dem nl x2)), (34, Rg.Ex (.pointer (some ⟨w.heap.size, 3, none⟩))), (35, Rg.Ex (.slice (some ⟨g, o, none⟩) 3 cap)), (36, Rg.Ex (.pointer (some ⟨g, o + 8, none⟩))), (37, Rg.Ex (.agg #[Kv x3.kind, St x3.text, .slice an3 x3.names.length cn3, .slice aa3 x3.parts.length ca3])), (38, Rg.Ex (.slice aN nl.length cN)), (39, FR8 (dem nl x3)), (40, FR8 ((dem nl x2).mt (dem nl x3))), (41, FR8 ((dem nl x1).un ((dem nl x2).mt (dem nl x3))))] (by kernel_rfl) (by kernel_rfl) (by rfl) (by rfl)
      (fun a => Fr.refl _ a) (fun a b c h k => h.trans k (fun _ _ f => f)) (Fr.refl _ _).drew
      (Rg.Stays.all ⟨Rg.Ex.stays _, Rg.Ex.stays _, Rg.Ex.stays _, Rg.Ex.stays _, Rg.Ex.stays _, FR8.stays _, Rg.Ex.stays _, Rg.Ex.stays _, Rg.Ex.stays _, Rg.Ex.stays _, Rg.Ex.stays _, FR8.stays _, Rg.Ex.stays _, Rg.Ex.stays _, Rg.Ex.stays _, Rg.Ex.stays _, Rg.Ex.stays _, FR8.stays _, FR8.stays _, FR8.stays _, trivial⟩) ?_ ?_
    · go_light
      refine Rg.OpGoals.cons (Rg.OpGoal.plain rfl ?_) (Rg.OpGoals.cons (Rg.OpGoal.plain rfl ?_) (Rg.OpGoals.cons (Rg.OpGoal.plain rfl ?_) (Rg.OpGoals.cons (Rg.OpGoal.plain rfl ?_) (Rg.OpGoals.cons (Rg.OpGoal.plain rfl ?_) (Rg.OpGoals.cons (Rg.OpGoal.plain rfl ?_) (Rg.OpGoals.cons (Rg.OpGoal.plain rfl ?_) (Rg.OpGoals.cons (Rg.OpGoal.plain rfl ?_) (Rg.OpGoals.cons (Rg.OpGoal.plain rfl ?_) (Rg.OpGoals.cons (Rg.OpGoal.plain rfl ?_) (Rg.OpGoals.cons (Rg.OpGoal.plain rfl ?_) (Rg.OpGoals.cons (Rg.OpGoal.plain rfl ?_) (Rg.OpGoals.cons (Rg.OpGoal.plain rfl ?_) (Rg.OpGoals.cons (Rg.OpGoal.plain rfl ?_) (Rg.OpGoals.cons (Rg.OpGoal.plain rfl ?_) (Rg.OpGoals.cons (Rg.OpGoal.plain rfl ?_) (Rg.OpGoals.cons (Rg.OpGoal.plain rfl ?_) (Rg.OpGoals.cons (Rg.OpGoal.plain rfl ?_) (Rg.OpGoals.cons (Rg.OpGoal.plain rfl ?_) (Rg.OpGoals.cons (Rg.OpGoal.plain rfl ?_) Rg.OpGoals.none)))))))))))))))))))
      all_goals (intro a' w' hS hR; simp [Rg.Rd, Op.operands, Call.operands, Rg.Fk, Rg.Ex] at hR)
      all_goals (have e3' := hS.cell HE3.out (fun f => f))
      all_goals (have c10' := hS.cell HC1.out.1 (fun f => f))
      all_goals (have c11' := hS.cell HC1.out.2.1 (fun f => f))
      all_goals (have c12' := hS.cell HC1.out.2.2.1 (fun f => f))
      all_goals (have c13' := hS.cell HC1.out.2.2.2 (fun f => f))
      all_goals (have c20' := hS.cell HC2.out.1 (fun f => f))
      all_goals (have c21' := hS.cell HC2.out.2.1 (fun f => f))
      all_goals (have c22' := hS.cell HC2.out.2.2.1 (fun f => f))
      all_goals (have c23' := hS.cell HC2.out.2.2.2 (fun f => f))
      all_goals (have c30' := hS.cell HC3.out.1 (fun f => f))
      all_goals (have c31' := hS.cell HC3.out.2.1 (fun f => f))
      all_goals (have c32' := hS.cell HC3.out.2.2.1 (fun f => f))
      all_goals (have c33' := hS.cell HC3.out.2.2.2 (fun f => f))
      all_goals try (simp [Rg.Yields, execOp, Act.eval, hR, e3', c10', c11', c12', c13', c20', c21', c22', c23', c30', c31', c32', c33', go_sem, Rg.Fk, Rg.Ex, Fr.refl]; done)
      · simp [Rg.Yields, Act.eval, hR, go_sem, Rg.Fk, Rg.Ex]
        refine (HD1.out _ hS).mono ?_
        rintro e w2 ⟨r, rfl, h1, h2⟩
        exact ⟨r, rfl, h1, h2⟩
      · simp [Rg.Yields, Act.eval, hR, go_sem, Rg.Fk, Rg.Ex]
        refine (HD2.out _ hS).mono ?_
        rintro e w2 ⟨r, rfl, h1, h2⟩
        exact ⟨r, rfl, h1, h2⟩
      · simp [Rg.Yields, Act.eval, hR, go_sem, Rg.Fk, Rg.Ex]
        refine (HD3.out _ hS).mono ?_
        rintro e w2 ⟨r, rfl, h1, h2⟩
        exact ⟨r, rfl, h1, h2⟩
      · obtain ⟨h1, h2⟩ := hR
        obtain ⟨b1, n1, c1, A1, e1⟩ := RD.shape h1
        obtain ⟨b2, n2, c2, A2, e2⟩ := RD.shape h2
        have h1' : RD w' _ _ := h1
        have h2' : RD w' _ _ := h2
        rw [e1] at h1'
        rw [e2] at h2'
        simp [Rg.Yields, Act.eval, e1, e2, go_sem, Rg.Fk, Rg.Ex]
        refine (reach_any h1' h2' HI2.out HUL.out).mono ?_
        rintro e w2 ⟨r, rfl, h3, h4⟩
        exact ⟨r, rfl, h3, h4⟩
      · obtain ⟨h1, h2⟩ := hR
        obtain ⟨b1, n1, c1, A1, e1⟩ := RD.shape h1
        obtain ⟨b2, n2, c2, A2, e2⟩ := RD.shape h2
        have h1' : RD w' _ _ := h1
        have h2' : RD w' _ _ := h2
        rw [e1] at h1'
        rw [e2] at h2'
        simp [Rg.Yields, Act.eval, e1, e2, go_sem, Rg.Fk, Rg.Ex]
        refine (rboth_any h1' h2' HI1.out (HI2.out.mt HI3.out) HUL.out).mono ?_
        rintro e w2 ⟨r, rfl, h3, h4⟩
        exact ⟨r, rfl, h3, h4⟩
    · intro w5 hS
      rintro _ rfl _ rfl _ rfl _ rfl _ rfl v27 h27 _ rfl _ rfl _ rfl _ rfl _ rfl v33 h33 _ rfl _ rfl _ rfl _ rfl _ rfl v39 h39 v40 h40 v41 h41
      refine Rg.Then.nil ?_
      clear h27 h33 h39 h40
      obtain ⟨a4, c4, A4, l4, rfl, hrs⟩ := h41
      have hr4 := hS.get HBR.out (fun f => f)
      obtain ⟨r0, r1⟩ := And.intro (cell_of_get hr4 0) (cell_of_get hr4 1)
      obtain ⟨x0', x1'⟩ := And.intro (frozen_of_get hr4 0) (frozen_of_get hr4 1)
      have HG4 := hid hS
      have HR4 := hid hr4
      have HRS := hid hrs
      clear hrs hr4 hS
      go_wp2
      exact bodyPost_ret (v := .agg #[.slice a4 l4.length c4, .bool A4]) (res89 Try.results52 _ _ (w.heap.size + 1) rfl (set2_heap HR4.out _ _)) rfl (dr_done (by rw [HDR.out, hv.out]; exact HRS.out) (HG2.out.trans HG4.out (fun _ _ f => f)) ⟨_, _, _, _, rfl, rfl⟩ HR4.out (by omega))
  by_cases k9 : k = 9
  · subst k9
    have hl9 := h9 rfl
    obtain ⟨y, hy⟩ := at_of_lt (l := l) (i := ns.length) (by omega)
    have hv := hid (show demF nl 9 t ns l (dems nl l) = letD (dem nl y) (ns.zip (dems nl l)) by
      show letD (((dems nl l)[ns.length]?).getD DS.no) _ = _
      rw [dems_get nl hy]; rfl)
    have hcall := bound_core (cap := cap) HH.out hsz hl9 (by omega) hy W2 HG02.out 9 t (.slice an ns.length cn) HNM.out
    rw [← hl9] at hcall
    clear hl9 hy
    have HB4 := hid (And.intro (cell_of_get HBE.out 1) (And.intro (cell_of_get HBE.out 2) (cell_of_get HBE.out 3)))
    obtain ⟨e1, e2, e3⟩ := HB4.out
    clear h7 h8 h9
    go_upto_region 1 with (fail)
    rw [← hW2]
    clear hW2
    go_wp2_with (go_at_call 78; (with_reducible refine hcall.mono ?_); rintro e w4 ⟨v, rfl, hrd, hg4⟩; clear hcall; obtain ⟨a4, c4, A4, l4, rfl, hrs⟩ := hrd; have hr4 := hg4.get HBR.out (fun f => f); obtain ⟨r0, r1⟩ := And.intro (cell_of_get hr4 0) (cell_of_get hr4 1); obtain ⟨x0', x1'⟩ := And.intro (frozen_of_get hr4 0) (frozen_of_get hr4 1); have HRS := hid hrs; have HG4 := hid hg4; have HR4 := hid hr4; clear hrs hg4 hr4)
    exact bodyPost_ret (v := .agg #[.slice a4 l4.length c4, .bool A4]) (res89 Try.results52 _ _ (w.heap.size + 1) rfl (set2_heap HR4.out _ _)) rfl (dr_done (by rw [HDR.out, hv.out]; exact HRS.out) (HG2.out.trans HG4.out (fun _ _ f => f)) ⟨_, _, _, _, rfl, rfl⟩ HR4.out (by omega))
  obtain ⟨r0, r1⟩ := And.intro (cell_of_get HBR.out 0) (cell_of_get HBR.out 1)
  obtain ⟨x0, x1⟩ := And.intro (frozen_of_get HBR.out 0) (frozen_of_get HBR.out 1)
  by_cases k10 : k = 10
  · subst k10
    clear h7 h8 h9
    by_cases tc : t = [99, 111, 110, 115]
    · subst tc
      have hv := hid (show demF nl 10 [99, 111, 110, 115] ns l (dems nl l) = DS.no from rfl)
      have e1 := cell_of_get HBE.out 1
      go_upto_region 1 with (fail)
      rw [← hW2]
      clear hW2
      go_wp2
      exact bodyPost_ret (v := .agg #[.slice none ([] : List Str).length 0, .bool false]) (res89 Try.results52 _ _ (w.heap.size + 1) rfl (set2_heap HBR.out _ _)) rfl (dr_done (by rw [HDR.out, hv.out]; exact RS.empty _) HG2.out ⟨_, _, _, _, rfl, rfl⟩ HBR.out (by omega))
    by_cases te : t = [101, 114, 114, 111, 114]
    · subst te
      have hv := hid (show demF nl 10 [101, 114, 114, 111, 114] ns l (dems nl l) = DS.ev from rfl)
      have e1 := cell_of_get HBE.out 1
      clear tc
      go_upto_region 1 with (fail)
      rw [← hW2]
      clear hW2
      go_wp2
      exact bodyPost_ret (v := .agg #[.slice none ([] : List Str).length 0, .bool true]) (res89 Try.results52 _ _ (w.heap.size + 1) rfl (set2_heap HBR.out _ _)) rfl (dr_done (by rw [HDR.out, hv.out]; exact RS.ev _) HG2.out ⟨_, _, _, _, rfl, rfl⟩ HBR.out (by omega))
    have hv := hid (show demF nl 10 t ns l (dems nl l) = unl (dems nl l) from by
      show (if t = _ then _ else if t = _ then _ else _) = _
      rw [if_neg te, if_neg tc])
    have te2 : (t == [101, 114, 114, 111, 114]) = false := by simpa using te
    have tc2 : (t == [99, 111, 110, 115]) = false := by simpa using tc
    have e1 := cell_of_get HBE.out 1
    have e3 := cell_of_get HBE.out 3
    obtain ⟨W3, hW3⟩ : ∃ q : World, q = W2.alloc (.cells #[.slice none 0 0, .bool false] 89) := ⟨_, rfl⟩
    have g23 : Grew W2 W3 := by rw [hW3]; exact (Fr.refl _ _).alloc _
    have ho3 : W3.heap[W2.heap.size]? = some (.cells #[.slice none 0 0, .bool false] 89 (0, 0)) := by rw [hW3]; exact heap_alloc_new W2 _
    have HO3 := hid ho3
    have HG23 := hid g23
    have HE3 := hid (cell_of_get (g23.get HBE.out (fun f => f)) 3)
    have HR3 := hid (g23.get HBR.out (fun f => f))
    clear ho3 g23 r0 r1 x0 x1 te tc
    go_upto_region 1 with (fail)
    rw [← hW2]
    clear hW2
    go_upto_region 16 with (fail)
    rw [← hW3]
    clear hW3 e1 e3
    go_wp2
    go_loopw [6] (fun iv wr => ∃ (j : Nat) (a : Option Addr) (c : Nat) (A : Bool) (ls : List Str), j ≤ l.length ∧ iv = .int .i64 j ∧ wr.heap[W2.heap.size]? = some (.cells #[.slice a ls.length c, .bool A] 89 (0, 0)) ∧ RS wr a c A ls (unl (dems nl (l.take j))) ∧ Fr (fun k => k = W2.heap.size) W3 wr) (fun i _ => l.length - (intOf i).toNat)
    case atStart => exact ⟨0, none, 0, false, [], Nat.zero_le _, rfl, HO3.out, by simp [dems, unl]; exact RS.empty _, Fr.refl _ _⟩
    case round =>
      obtain ⟨j, a, c, A, ls, hj, rfl, hbo, hrs, hfr⟩ := hrel
      have hs2 := HS2.out
      have e3 : wr.cell? ⟨w.heap.size, 3, none⟩ = some (.slice av l.length cap) := hfr.cell HE3.out (by show ¬ w.heap.size = W2.heap.size; omega)
      have hg2r : Grew W2 wr := HG23.out.trans hfr (fun c hc e => by omega)
      have HGW := hid (HG2.out.trans hg2r (fun _ _ f => f))
      have hg0 : Grew w0 wr := HG02.out.trans hg2r (fun _ _ f => f)
      have HFR := hid hfr
      have HRS := hid hrs
      have HBO := hid hbo
      by_cases hlt : j < l.length
      · obtain ⟨x, hx⟩ := at_of_lt hlt
        obtain ⟨g, o, rfl, hel⟩ := HH.out (fun e => by rw [e] at hlt; simp at hlt)
        obtain ⟨an3, cn3, aa3, ca3, he, hc⟩ := hel j x hx
        have HE := hid e3
        have HO := hid (And.intro (cell_of_get hbo 0) (cell_of_get hbo 1))
        have HC := hid (And.intro (hg0.cell he.c0 (fun f => f)) (And.intro (hg0.cell he.c1 (fun f => f)) (And.intro (hg0.cell he.c2 (fun f => f)) (hg0.cell he.c3 (fun f => f)))))
        have HDX := hid (fun (W' : World) (k : Grew wr W') => hc W' (hg0.trans k (fun _ _ f => f)))
        have hUT := unl_take (dems_get nl hx)
        rw [← dems_take, ← dems_take] at hUT
        have HUT := hid hUT
        have HIN := hid (show Ins (vss l) (unl (dems nl (l.take j))) from by
          rw [dems_take]
          exact Ins.unl (fun d hd => dems_ins nl l d (List.mem_of_mem_take hd)))
        have HINX := hid (HU.out x (List.mem_of_getElem? hx))
        obtain ⟨dP, hdP⟩ : ∃ d, d = unl (dems nl (l.take j)) := ⟨_, rfl⟩
        rw [← hdP] at HRS HIN HUT
        clear hel he hc hx hUT hbo hrs hfr hg0 hg2r hs2 hdP
        go_upto_region 19 with (fail)
        clear e3
        refine Rg.wp_region_facts 9 Grew [(64, Rg.Ex (.agg #[.slice a ls.length c, .bool A])), (65, Rg.Ex (.pointer (some ⟨w.heap.size, 3, none⟩))), (66, Rg.Ex (.slice (some ⟨g, o, none⟩) l.length cap)), (67, Rg.Ex (.int .i64 (j : Int))), (68, Rg.Ex (.pointer (some ⟨g, o + j * 4, none⟩))), (69, Rg.Ex (.agg #[Kv x.kind, St x.text, .slice an3 x.names.length cn3, .slice aa3 x.parts.length ca3])), (70, Rg.Ex (.slice aN nl.length cN)), (71, FR8 (dem nl x)), (72, FR8 (dP.un (dem nl x)))] (by kernel_rfl) (by kernel_rfl) (by rfl) (by rfl)
          (fun a => Fr.refl _ a) (fun a b c h k => h.trans k (fun _ _ f => f)) (Fr.refl _ _).drew
          (Rg.Stays.all ⟨Rg.Ex.stays _, Rg.Ex.stays _, Rg.Ex.stays _, Rg.Ex.stays _, Rg.Ex.stays _, Rg.Ex.stays _, Rg.Ex.stays _, FR8.stays _, FR8.stays _, trivial⟩) ?_ ?_
        · go_light
          refine Rg.OpGoals.cons (Rg.OpGoal.plain rfl ?_) (Rg.OpGoals.cons (Rg.OpGoal.plain rfl ?_) (Rg.OpGoals.cons (Rg.OpGoal.plain rfl ?_) (Rg.OpGoals.cons (Rg.OpGoal.plain rfl ?_) (Rg.OpGoals.cons (Rg.OpGoal.plain rfl ?_) (Rg.OpGoals.cons (Rg.OpGoal.plain rfl ?_) (Rg.OpGoals.cons (Rg.OpGoal.plain rfl ?_) (Rg.OpGoals.cons (Rg.OpGoal.plain rfl ?_) (Rg.OpGoals.cons (Rg.OpGoal.plain rfl ?_) Rg.OpGoals.none))))))))
          all_goals (intro a' w' hS hR; simp [Rg.Rd, Op.operands, Call.operands, Rg.Fk, Rg.Ex] at hR)
          all_goals (have o0' := hS.cell HO.out.1 (fun f => f))
          all_goals (have o1' := hS.cell HO.out.2 (fun f => f))
          all_goals (have e3' := hS.cell HE.out (fun f => f))
          all_goals (have c0' := hS.cell HC.out.1 (fun f => f))
          all_goals (have c1' := hS.cell HC.out.2.1 (fun f => f))
          all_goals (have c2' := hS.cell HC.out.2.2.1 (fun f => f))
          all_goals (have c3' := hS.cell HC.out.2.2.2 (fun f => f))
          all_goals try (simp [Rg.Yields, execOp, Act.eval, hR, o0', o1', e3', c0', c1', c2', c3', hlt, go_sem, Rg.Fk, Rg.Ex, Fr.refl]; done)
          · simp [Rg.Yields, Act.eval, hR, go_sem, Rg.Fk, Rg.Ex]
            refine (HDX.out _ hS).mono ?_
            rintro e w2 ⟨r, rfl, h1, h2⟩
            exact ⟨r, rfl, h1, h2⟩
          · obtain ⟨e1, h2⟩ := hR
            obtain ⟨b2, n2, c2, A2, e2⟩ := RD.shape h2
            have h2' : RD w' _ _ := h2
            rw [e2] at h2'
            simp [Rg.Yields, Act.eval, e1, e2, go_sem, Rg.Fk, Rg.Ex]
            refine (rboth_any (show RD w' _ _ from ⟨_, _, _, _, rfl, HRS.out.kept hS⟩) h2' HIN.out HINX.out HUL.out).mono ?_
            rintro e w2 ⟨r, rfl, h3, h4⟩
            exact ⟨r, rfl, h3, h4⟩
        · intro w8 hS
          rintro _ rfl _ rfl _ rfl _ rfl _ rfl _ rfl _ rfl v71 h71 v72 h72
          refine Rg.Then.nil ?_
          clear h71
          obtain ⟨a8, c8, A8, l8, rfl, h72'⟩ := h72
          have hq := hS.get HBO.out (fun f => f)
          obtain ⟨k0, k1⟩ := And.intro (cell_of_get hq 0) (cell_of_get hq 1)
          obtain ⟨f0, f1⟩ := And.intro (frozen_of_get hq 0) (frozen_of_get hq 1)
          have hset := set2_fr w8 W2.heap.size (.slice a8 l8.length c8) (.bool A8)
          have HQ8 := hid (set2_heap hq (.slice a8 l8.length c8) (.bool A8))
          have HRS8 := hid ((RS.as h72' HUT.out).set hq hset)
          have HFR8 := hid ((HFR.out.trans (Grew.any hS) (fun _ _ e => e)).trans hset (fun _ _ e => e))
          clear h72' hq hset hS
          go_wp2
          go_roundw
          case rel => exact ⟨j + 1, a8, c8, A8, l8, by omega, by go_num, HQ8.out, HRS8.out, HFR8.out⟩
          case measure => simp [intOf]; omega
      · obtain rfl : j = l.length := by omega
        rw [List.take_length] at hrs
        obtain ⟨o0, o1⟩ := And.intro (cell_of_get hbo 0) (cell_of_get hbo 1)
        have hr := hfr.get HR3.out (by omega)
        obtain ⟨r0, r1⟩ := And.intro (cell_of_get hr 0) (cell_of_get hr 1)
        obtain ⟨y0, y1⟩ := And.intro (frozen_of_get hr 0) (frozen_of_get hr 1)
        have HR := hid hr
        have HRSe := hid hrs
        clear hbo hrs hfr hr hg0 hg2r hs2
        go_wp2
        exact bodyPost_ret (v := .agg #[.slice a ls.length c, .bool A]) (res89 Try.results52 _ _ (w.heap.size + 1) rfl (set2_heap HR.out _ _)) rfl (dr_done (by rw [HDR.out, hv.out]; exact HRSe.out) HGW.out ⟨_, _, _, _, rfl, rfl⟩ HR.out (by omega))
  have hv := hid (show demF nl k t ns l (dems nl l) = DS.no from by
    show (if k = 5 then _ else _) = _
    rw [if_neg k5, if_neg k8, if_neg k7, if_neg k9, if_neg k10])
  clear h7 h8 h9
  go_upto_region 1 with (fail)
  rw [← hW2]
  clear hW2
  go_wp2
  exact bodyPost_ret (v := .agg #[.slice none ([] : List Str).length 0, .bool false]) (res89 Try.results52 _ _ (w.heap.size + 1) rfl (set2_heap HBR.out _ _)) rfl (dr_done (by rw [HDR.out, hv.out]; exact RS.empty _) HG2.out ⟨_, _, _, _, rfl, rfl⟩ HBR.out (by omega))

theorem rdem_row {w0 : World} {aN : Option Addr} {cN : Nat} {nl : Ned} (hnd : Nd w0 (fun _ => False) (.slice aN nl.length cN) nl) {v : Value} {l : List X} (h : Row w0 (fun b => w0.heap.size ≤ b) v l) : (∀ x ∈ l, So x) → sizes l ≤ 400000 → l.length ≤ 1000000 → ∀ w, Grew w0 w → ∀ (k : Int) (t : Str) (vn : Value) (ns : List Str), Nm w0 (fun b => w0.heap.size ≤ b) vn ns →
    (k = 7 → l ≠ []) → (k = 8 → l.length = 3) → (k = 9 → l.length = ns.length + 1) → Calls Try.prog 52 #[.agg #[Kv k, St t, vn, v], .slice aN nl.length cN] w (DrPost w (dem nl (.mk k t ns l))) := by
  refine Row.ind (P := fun v l => (∀ x ∈ l, So x) → sizes l ≤ 400000 → l.length ≤ 1000000 → ∀ w, Grew w0 w → ∀ (k : Int) (t : Str) (vn : Value) (ns : List Str), Nm w0 (fun b => w0.heap.size ≤ b) vn ns →
    (k = 7 → l ≠ []) → (k = 8 → l.length = 3) → (k = 9 → l.length = ns.length + 1) → Calls Try.prog 52 #[.agg #[Kv k, St t, vn, v], .slice aN nl.length cN] w (DrPost w (dem nl (.mk k t ns l)))) ?_ ?_ h
  · intro ad cap _ hsz hl w hw k t vn ns hn h7 h8 h9
    exact rdem_core (D := fun b => w0.heap.size ≤ b) (l := []) (fun e => absurd rfl e) hnd hsz hl w hw k t vn ns hn h7 h8 h9
  · intro l g o cap _ _ _ H hs hsz hl w hw k t vn ns hn h7 h8 h9
    refine rdem_core (D := fun b => w0.heap.size ≤ b) (fun _ => ⟨g, o, rfl, fun i x hx => ?_⟩) hnd hsz hl w hw k t vn ns hn h7 h8 h9
    obtain ⟨an, cn, aa, ca, he, hc⟩ := H i x hx
    refine ⟨an, cn, aa, ca, he, fun w2 hg => ?_⟩
    have hso := hs x (List.mem_of_getElem? hx)
    have hxs := size_le_sizes l i x hx
    cases hso with
    | mk k t ns a h7 h8 h9 ha h => exact hc h (show sizes a ≤ 400000 by simp only [X.size] at hxs; omega) ha w2 hg k t _ ns he.nm h7 h8 h9
/-- demands -/
theorem rdem_any {w0 : World} {aN : Option Addr} {cN : Nat} {nl : Ned} (hnd : Nd w0 (fun _ => False) (.slice aN nl.length cN) nl) {e : Value} {x : X} (h : Rd w0 (fun _ => False) e x) (hx : So x) (hsz : x.size ≤ 400000) (w : World) (hw : Grew w0 w) : Calls Try.prog 52 #[e, .slice aN nl.length cN] w (DrPost w (dem nl x)) := by
  obtain ⟨vn, va, rfl, hn, hr⟩ := h.mono (E := fun b => w0.heap.size ≤ b) (fun b hb q => by omega)
  cases hx with
  | mk k t ns a h7 h8 h9 ha hso => exact rdem_row hnd hr hso (show sizes a ≤ 400000 by simp only [X.size] at hsz; omega) ha w hw k t vn ns hn h7 h8 h9
end Go.Proofs.Ytddcfnjmppijjaa
