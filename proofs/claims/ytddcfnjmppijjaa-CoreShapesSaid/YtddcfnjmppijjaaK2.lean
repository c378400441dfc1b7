import Derived.Test.YtddcfnjmppijjaaN7
import Derived.Test.YtddcfnjmppijjaaM23
import Derived.BigRegion
/-! CoreShapes's walk. -/
namespace Go.Proofs.Ytddcfnjmppijjaa
open Go.RowKit

/-- the term of nothing -/
abbrev nilX : X := .mk 3 [] [] []

/-- a term's block while its parts are made -/
structure SA (W : World) (b : Nat) (kd : Int) (t : Str) (vA : Value) (xs : List X) (wr : World) : Prop where
  keep : Fr (fun k => k = b) W wr
  box : wr.heap[b]? = some (.cells #[Kv kd, St t, .slice none 0 0, vA] 28 (0, 0))
  ox : OX W.heap.size wr vA xs
  all : ∀ x ∈ xs, x = nilX

theorem SA.step {W : World} {b : Nat} {kd : Int} {t : Str} {vA : Value} {xs : List X} {wr : World} (h : SA W b kd t vA xs wr) (hb : b < W.heap.size) (hl : xs.length ≤ 100) (ty : TypeId) :
    ∃ v1 w6, (Builtin.append_ #[26, 26] ty #[vA, .slice (some ⟨wr.heap.size, 0, none⟩) 1 1]).run Try.prog (wr.alloc (.cells #[.int .i64 3, .string ⟨#[]⟩, .slice none 0 0, .slice none 0 0] 28)) = .ok v1 w6 ∧ (∃ a m c, v1 = .slice a m c) ∧
      w6.cell? ⟨b, 3, none⟩ = some vA ∧ w6.frozen? ⟨b, 3, none⟩ = false ∧ SA W b kd t v1 (xs ++ [nilX]) (w6.setCell ⟨b, 3, none⟩ v1) := by
  obtain ⟨keep, box, ox, all⟩ := h
  have hs := keep.size
  have hg5 : Grew wr (wr.alloc (.cells #[.int .i64 3, .string ⟨#[]⟩, .slice none 0 0, .slice none 0 0] 28)) := (Fr.refl _ _).alloc _
  obtain ⟨v1, w6, hrun, hox6, hf6⟩ := (ox.kept hg5 (fun _ e => e.elim)).app (x := nilX) (vn := .slice none 0 0) (va := .slice none 0 0) (by simp; omega) (by omega) (heap_alloc_new wr _)
    ⟨none, 0, rfl, Nat.zero_le _, Nat.zero_le _, .inl rfl⟩ (.nil none 0 (Nat.zero_le _)) ty
  have hf56 := (Grew.any (F := fun k => vA.ownBlock = some k) hg5).trans hf6 (fun _ _ e => e)
  have hown : ∀ k, k < W.heap.size → ¬ vA.ownBlock = some k := fun k hk e => by have := (ox.lt e).1; omega
  have box6 := hf56.get box (hown _ hb)
  have hset : Fr (fun k => k = b) w6 (w6.setCell ⟨b, 3, none⟩ v1) := (Fr.refl (fun k => k = b) w6).setCell (p := ⟨b, 3, none⟩) (fun _ => rfl) v1
  obtain ⟨aa, ca, e, -⟩ := hox6.shape
  refine ⟨v1, w6, hrun, ⟨aa, _, ca, e⟩, cell_of_get box6 3, frozen_of_get box6 3, ⟨?_, ?_, hox6.kept hset (fun k e => by omega), ?_⟩⟩
  · exact (keep.trans hf56 (fun k hk e => absurd e (hown k hk))).trans hset (fun k hk e => e)
  · simp [World.setCell, Array.getElem?_modify, box6]
  · intro y hy
    rcases List.mem_append.1 hy with hy | hy
    · exact all y hy
    · exact List.mem_singleton.1 hy

/-- .. and while its names are put -/
structure SN (wo : World) (b : Nat) (kd : Int) (t : Str) (vA : Value) (vN : Value) (ns : List Str) (wr : World) : Prop where
  keep : Fr (fun k => k = b) wo wr
  box : wr.heap[b]? = some (.cells #[Kv kd, St t, vN, vA] 28 (0, 0))
  rt : Rt wo.heap.size wr vN ns
  small : ns.length ≤ 10

theorem SN.step {wo : World} {b : Nat} {kd : Int} {t : Str} {vA vN : Value} {ns : List Str} {wr : World} (h : SN wo b kd t vA vN ns wr) (hb : b < wo.heap.size) (hl : ns.length ≤ 9) (s : Str) (o1 : Obj) (ty : TypeId) :
    ∃ v1 w6, (Builtin.append_ #[25, 25] ty #[vN, .slice (some ⟨wr.heap.size + 1, 0, none⟩) 1 1]).run Try.prog ((wr.alloc o1).alloc (.cells #[St s] 9)) = .ok v1 w6 ∧ (∃ a m c, v1 = .slice a m c) ∧
      w6.cell? ⟨b, 2, none⟩ = some vN ∧ w6.frozen? ⟨b, 2, none⟩ = false ∧ SN wo b kd t vA v1 (ns ++ [s]) (w6.setCell ⟨b, 2, none⟩ v1) ∧ Fr (fun k => vN.ownBlock = some k) ((wr.alloc o1).alloc (.cells #[St s] 9)) w6 := by
  obtain ⟨keep, box, rt, small⟩ := h
  have hs := keep.size
  have hg5 : Grew wr ((wr.alloc o1).alloc (.cells #[St s] 9)) := ((Fr.refl _ _).alloc _).alloc _
  have hn1 := nm_one (wr.alloc o1) s _ rfl
  rw [show (wr.alloc o1).heap.size = wr.heap.size + 1 by simp] at hn1
  obtain ⟨v1, w6, hrun, hn3, hf6, ho3⟩ := app_rt (rt_kept rt hg5 (fun _ _ f => f)) (by simp; omega) hn1 (by simp; omega) ty
  have hf56 := (Grew.any (F := fun k => vN.ownBlock = some k) hg5).trans hf6 (fun _ _ e => e)
  have hown : ∀ k, k < wo.heap.size → ¬ vN.ownBlock = some k := fun k hk e => by have := (rt.lt k e).1; omega
  have box6 := hf56.get box (hown _ hb)
  have hset : Fr (fun k => k = b) w6 (w6.setCell ⟨b, 2, none⟩ v1) := (Fr.refl (fun k => k = b) w6).setCell (p := ⟨b, 2, none⟩) (fun _ => rfl) v1
  obtain ⟨a1, c1, e1, -⟩ := hn3.shape
  refine ⟨v1, w6, hrun, ⟨a1, _, c1, e1⟩, cell_of_get box6 2, frozen_of_get box6 2, ⟨?_, ?_, ?_, by simp; omega⟩, hf6⟩
  · exact (keep.trans hf56 (fun k hk e => absurd e (hown k hk))).trans hset (fun k hk e => e)
  · simp [World.setCell, Array.getElem?_modify, box6]
  · exact rt_kept hn3 hset (fun g hg e => by have := (hn3.lt g hg).1; omega)

theorem SN.drew {wo : World} {b : Nat} {kd : Int} {t : Str} {vA vN : Value} {ns : List Str} {wr : World} (h : SN wo b kd t vA vN ns wr) : SN wo b kd t vA vN ns wr.drew :=
  ⟨h.keep.drew, h.box, rt_kept h.rt ((Fr.refl (fun _ => False) wr).drew) (fun _ _ f => f), h.small⟩

abbrev tbl7 : Obj := .cells #[.string ⟨#[]⟩, .string ⟨#[120]⟩, .string ⟨#[53]⟩, .string ⟨#[35, 116]⟩, .string ⟨#[99, 111, 110, 115]⟩, .string ⟨#[99, 97, 114]⟩, .string ⟨#[45, 48]⟩] 9
theorem tbl7_cells (w : World) (k : Nat) (hk : k < 7) : ∃ s : Str, s.length ≤ 10 ∧ (w.alloc tbl7).cell? ⟨w.heap.size, k, none⟩ = some (St s) := by
  rw [cell_of_get (heap_alloc_new w _)]
  match k, hk with
  | 0, _ => exact ⟨[], by decide, rfl⟩
  | 1, _ => exact ⟨[120], by decide, rfl⟩
  | 2, _ => exact ⟨[53], by decide, rfl⟩
  | 3, _ => exact ⟨[35, 116], by decide, rfl⟩
  | 4, _ => exact ⟨[99, 111, 110, 115], by decide, rfl⟩
  | 5, _ => exact ⟨[99, 97, 114], by decide, rfl⟩
  | 6, _ => exact ⟨[45, 48], by decide, rfl⟩
abbrev tbl3 : Obj := .cells #[.string ⟨#[112]⟩, .string ⟨#[113]⟩, .string ⟨#[114]⟩] 9
theorem tbl3_get (k : Nat) (hk : k < 3) : ∃ s : Str, s.length ≤ 10 ∧ ([.string ⟨#[112]⟩, .string ⟨#[113]⟩, .string ⟨#[114]⟩] : List Value)[k]? = some (St s) := by
  match k, hk with
  | 0, _ => exact ⟨[112], by decide, rfl⟩
  | 1, _ => exact ⟨[113], by decide, rfl⟩
  | 2, _ => exact ⟨[114], by decide, rfl⟩

set_option maxHeartbeats 8000000 in
set_option maxRecDepth 100000 in
theorem shapes_walk (a0 a1 a2 a3 : Int) {w : World} (hG : Gl w) : Calls Try.prog 10 #[.int .i64 a0, .int .i64 a1, .int .i64 a2, .int .i64 a3] w fun e w' => e = .returned (.bool true) ∧ Grew w w' := by
  have hk := known_any hG
  have HGL := hid hG
  obtain ⟨k13, hk13, -, h13⟩ := place5 a0 13 (by omega) (by omega) _ rfl
  obtain ⟨k7, hk7, -, h7⟩ := place5 a3 7 (by omega) (by omega) _ rfl
  obtain ⟨n1, hn1, -, h1⟩ := place5 a1 4 (by omega) (by omega) _ rfl
  obtain ⟨n2, hn2, -, h2⟩ := place5 a2 4 (by omega) (by omega) _ rfl
  replace h13 : ∀ W, Calls Try.prog 38 #[.int .i64 a0, .int .i64 13] W fun e w' => e = .returned (Kv k13) ∧ W = w' := h13
  replace h7 : ∀ W, Calls Try.prog 38 #[.int .i64 a3, .int .i64 7] W fun e w' => e = .returned (Kv k7) ∧ W = w' := h7
  replace h1 : ∀ W, Calls Try.prog 38 #[.int .i64 a1, .int .i64 4] W fun e w' => e = .returned (Kv n1) ∧ W = w' := h1
  replace h2 : ∀ W, Calls Try.prog 38 #[.int .i64 a2, .int .i64 4] W fun e w' => e = .returned (Kv n2) ∧ W = w' := h2
  have HT := hid (fun W => tbl7_cells W k7 hk7)
  clear hG
  go_enter Try.func10, Try.ntmps10
  go_wp2_with (first | (go_at_call 32; (with_reducible refine hk.mono ?_); rintro e w1 ⟨rfl, hg1⟩; obtain ⟨t, htl, hc7⟩ := HT.out w1; have HG1 := hid hg1; clear hg1 hk) | (go_at_call 38; (with_reducible refine (h13 _).mono ?_); rintro e w2 ⟨rfl, rfl⟩; clear h13) | (go_at_call 38; (with_reducible refine (h7 _).mono ?_); rintro e w2 ⟨rfl, rfl⟩; clear h7))
  obtain ⟨W1, hW1⟩ : ∃ q : World, q = (w1.alloc tbl7).alloc (.cells #[.int .i64 ((k13 : Int) - 1), St t, .slice none 0 0, .slice none 0 0] 28) := ⟨_, rfl⟩
  have hs1 : W1.heap.size = w1.heap.size + 2 := by rw [hW1]; simp
  have HGW := hid (show Grew w W1 from by rw [hW1]; exact (HG1.out.alloc _).alloc _)
  have HSA0 := hid (show SA W1 (w1.heap.size + 1) ((k13 : Int) - 1) t (.slice none 0 0) [] W1 from ⟨Fr.refl _ _, by rw [hW1]; exact heap_a2 _ _ _, OX.nil _ _, by simp⟩)
  have HWE := hid hW1
  clear hW1 hc7
  generalize ((k13 : Int) - 1) = kd at *
  go_loopw [10] (fun b wr => ∃ (j : Nat) (xs : List X) (vA : Value), j ≤ n1 ∧ b = .int .i64 j ∧ xs.length = j ∧ (∃ a m c, vA = .slice a m c) ∧ SA W1 (w1.heap.size + 1) kd t vA xs wr) (fun b _ => n1 - (intOf b).toNat)
  case atStart => exact ⟨0, [], .slice none 0 0, Nat.zero_le _, rfl, rfl, ⟨_, _, _, rfl⟩, HWE.out ▸ HSA0.out⟩
  case round =>
    obtain ⟨j, xs, vA, hj, rfl, hxl, ⟨aA, mA, cA, rfl⟩, hsa⟩ := hrel
    by_cases hlt : j < n1
    · obtain ⟨v1, w6, hrun, ⟨a6, m6, c6, rfl⟩, hc, hf, hsa6⟩ := hsa.step (by omega) (by omega) 26
      have e3 := cell_of_get hsa.box 3
      have hbl := lt_of_get hsa.box
      have HSA := hid hsa6
      have HRUN := hid hrun
      clear hrun
      have HXL := hid (show (xs ++ [nilX]).length = j + 1 by simp [hxl])
      clear hsa hsa6 hxl
      go_wp2_with (first | (at_builtin; refine wpList_app rfl rfl rfl rfl HRUN.out ?_; clear HRUN) | (go_at_call 38; (with_reducible refine (h1 _).mono ?_); rintro e w2 ⟨rfl, rfl⟩))
      go_roundw
      case rel => exact ⟨j + 1, _, _, by omega, by go_num, HXL.out, ⟨_, _, _, rfl⟩, HSA.out⟩
      case measure => simp [intOf]; omega
    · have hjn : j = n1 := by omega
      have hbl1 := lt_of_get hsa.box
      have hbw : w1.heap.size + 1 < wr.heap.size := hbl1
      obtain ⟨wo, rfl⟩ : ∃ q : World, q = wr := ⟨_, rfl⟩
      have HSN0 := hid (show SN wo (w1.heap.size + 1) kd t (.slice aA mA cA) (.slice none 0 0) [] wo from ⟨Fr.refl _ _, hsa.box, World.ownsRow_nil _ _ _ _, by simp⟩)
      have HSA := hid hsa
      clear hsa
      subst hjn
      go_wp2_with (go_at_call 38; (with_reducible refine (h1 _).mono ?_); rintro e w2 ⟨rfl, rfl⟩)
      clear h1
      go_loopw [11] (fun b wr => ∃ (j : Nat) (ns : List Str) (vN : Value), j ≤ n2 ∧ b = .int .i64 j ∧ ns.length = j ∧ (∃ a m c, vN = .slice a m c) ∧ SN wo (w1.heap.size + 1) kd t (.slice aA mA cA) vN ns wr) (fun b _ => n2 - (intOf b).toNat)
      case atStart => exact ⟨0, [], .slice none 0 0, Nat.zero_le _, rfl, rfl, ⟨_, _, _, rfl⟩, HSN0.out⟩
      case round =>
        obtain ⟨j, ns, vN, hj, rfl, hnl, ⟨aN, mN, cN, rfl⟩, hsn⟩ := hrel
        by_cases hlt : j < n2
        · obtain ⟨s, -, hc3⟩ := tbl3_get j (by omega)
          obtain ⟨v1, w6, hrun, ⟨a6, m6, c6, rfl⟩, hc, hf, hsn6, hf6⟩ := hsn.drew.step (by omega) (by omega) s tbl3 25
          have e2 := cell_of_get hsn.box 2
          have HNO := hid (show ¬ (Value.slice aN mN cN).ownBlock = some (w1.heap.size + 1) from fun e => by have := (hsn.rt.lt _ e).1; omega)
          have HSN := hid hsn6
          have HRUN := hid hrun
          have HF6 := hid hf6
          have HNL := hid (show (ns ++ [s]).length = j + 1 by simp [hnl])
          have hj3 : j < 3 := by omega
          have hj4 : (j : Int) < 3 := by omega
          clear hsn hsn6 hnl hrun hf6
          go_wp2_with (go_at_call 38; (with_reducible refine (h2 _).mono ?_); rintro e w2 ⟨rfl, rfl⟩)
          refine Rg.wp_region_factsJ 9 (Qs (fun w => w = wr.drew) (fun v w => v = .slice (some ⟨wr.heap.size, 0, none⟩) 3 3 ∧ w = wr.drew.alloc tbl3) (fun v w => v = .slice (some ⟨wr.heap.size + 1, 0, none⟩) 1 1 ∧ w = (wr.drew.alloc tbl3).alloc (.cells #[St s] 9)) (fun v w => v = .slice a6 m6 c6 ∧ w = w6) 55 2 6 7 43 47 48)
            (Fr (fun k => (Value.slice aN mN cN).ownBlock = some k)) [(41, Rg.Ex (.pointer (some ⟨w1.heap.size + 1, 2, none⟩))), (42, Rg.Ex (.slice aN mN cN)), (43, Rg.Ex (.slice (some ⟨wr.heap.size, 0, none⟩) 3 3)), (44, Rg.Ex (.int .i64 j)), (45, Rg.Ex (.pointer (some ⟨wr.heap.size, j, none⟩))), (46, Rg.Ex (St s)), (47, Rg.Ex (.slice (some ⟨wr.heap.size + 1, 0, none⟩) 1 1)), (48, Rg.Ex (.slice a6 m6 c6)), (49, Rg.Ex (.pointer (some ⟨w1.heap.size + 1, 2, none⟩)))] (by kernel_rfl) (by kernel_rfl) (by rfl) (by rfl)
            (fun a => Fr.refl _ a) (fun a b c h k => h.trans k (fun _ _ f => f)) (Fr.refl _ _).drew
            (Rg.Stays.all ⟨Rg.Ex.stays _, Rg.Ex.stays _, Rg.Ex.stays _, Rg.Ex.stays _, Rg.Ex.stays _, Rg.Ex.stays _, Rg.Ex.stays _, Rg.Ex.stays _, Rg.Ex.stays _, trivial⟩) ?_ ?_ ?_
          · go_light
            refine Rg.OpGoalsJ.cons ⟨rfl, ?_⟩ (Rg.OpGoalsJ.cons ⟨rfl, ?_⟩ (Rg.OpGoalsJ.cons ⟨rfl, ?_⟩ (Rg.OpGoalsJ.cons ⟨rfl, ?_⟩ (Rg.OpGoalsJ.cons ⟨rfl, ?_⟩ (Rg.OpGoalsJ.cons ⟨rfl, ?_⟩ (Rg.OpGoalsJ.cons ⟨rfl, ?_⟩ (Rg.OpGoalsJ.cons ⟨rfl, ?_⟩ (Rg.OpGoalsJ.cons ⟨rfl, ?_⟩ Rg.OpGoalsJ.none))))))))
            all_goals (intro listed a' w2 hmc hS hI hR; simp [Rg.Rd, Op.operands, Call.operands, Rg.Fk, Rg.Ex] at hR)
            all_goals (have hIo := fun i d v (h1 : i ≠ 2 ∧ i ≠ 6 ∧ i ≠ 7) (h2 : d ≠ 43 ∧ d ≠ 47 ∧ d ≠ 48) => hI.pure (i := i) (d := d) v h1 h2)
            all_goals (have e2' := hS.cell e2 HNO.out)
            all_goals try (simp [Rg.Yields, execOp, Act.eval, hR, e2', hj4, go_sem, Rg.Fk, Rg.Ex, Fr.refl]; exact hIo _ _ _ (by decide) (by decide))
            · have hno : listed.getD 2 false = false := hmc.not
              have hno6 : listed.getD 6 false = false := by
                cases h : listed.getD 6 false with
                | false => rfl
                | true =>
                  have h5 := hmc.closed 6 _ rfl h { on := 5, ground := .data } (by simp) rfl
                  have h4 := hmc.closed 5 _ rfl h5 { on := 4, ground := .data } (by simp) rfl
                  have h2 := hmc.closed 4 _ rfl h4 { on := 2, ground := .data } (by simp) rfl
                  rw [hno] at h2; cases h2
              have hno7 : listed.getD 7 false = false := by
                cases h : listed.getD 7 false with
                | false => rfl
                | true => have := hmc.closed 7 _ rfl h { on := 6, ground := .data } (by simp) rfl; rw [hno6] at this; cases this
              have h0 := hI.i0 hno
              subst h0
              simp [Rg.Yields, execOp, Act.eval, go_sem, Rg.Fk, Rg.Ex]
              exact ⟨Grew.any ((Fr.refl _ _).alloc _), hI.call ⟨rfl, rfl⟩ (by rw [hmc.size]; decide) (by decide) hno6 hno7 (by decide)⟩
            · have h4 : listed.getD 4 false = true := hmc.own { on := 4, ground := .data } (by simp) rfl
              have h2 : listed.getD 2 false = true := hmc.closed 4 _ rfl h4 { on := 2, ground := .data } (by simp) rfl
              have hno6 : listed.getD 6 false = false := by
                cases h : listed.getD 6 false with
                | false => rfl
                | true => have := hmc.closed 6 _ rfl h { on := 5, ground := .data } (by simp) rfl; rw [show listed.getD 5 false = false from hmc.not] at this; cases this
              obtain ⟨-, hw⟩ := hI.i6 h2 hno6
              subst hw
              simp [Rg.Yields, execOp, Act.eval, hR, hc3, go_sem, Rg.Fk, Rg.Ex, Fr.refl]
              exact hIo _ _ _ (by decide) (by decide)
            · have h5 : listed.getD 5 false = true := hmc.own { on := 5, ground := .data } (by simp) rfl
              have h4 : listed.getD 4 false = true := hmc.closed 5 _ rfl h5 { on := 4, ground := .data } (by simp) rfl
              have h2 : listed.getD 2 false = true := hmc.closed 4 _ rfl h4 { on := 2, ground := .data } (by simp) rfl
              have hno7 : listed.getD 7 false = false := by
                cases h : listed.getD 7 false with
                | false => rfl
                | true => have := hmc.closed 7 _ rfl h { on := 6, ground := .data } (by simp) rfl; rw [show listed.getD 6 false = false from hmc.not] at this; cases this
              obtain ⟨-, hw⟩ := hI.i6 h2 (show listed.getD 6 false = false from hmc.not)
              subst hw
              simp [Rg.Yields, execOp, Act.eval, hR, go_sem, Rg.Fk, Rg.Ex]
              exact ⟨Grew.any ((Fr.refl _ _).alloc _), hI.build ⟨rfl, rfl⟩ (by rw [hmc.size]; decide) (by decide) h2 hno7 (by decide)⟩
            · have h6 : listed.getD 6 false = true := hmc.own { on := 6, ground := .data } (by simp) rfl
              have h5 : listed.getD 5 false = true := hmc.closed 6 _ rfl h6 { on := 5, ground := .data } (by simp) rfl
              have h4 : listed.getD 4 false = true := hmc.closed 5 _ rfl h5 { on := 4, ground := .data } (by simp) rfl
              have h2 : listed.getD 2 false = true := hmc.closed 4 _ rfl h4 { on := 2, ground := .data } (by simp) rfl
              obtain ⟨-, hw⟩ := hI.i7 h6 (show listed.getD 7 false = false from hmc.not)
              subst hw
              refine Yields_app rfl (v := .slice aN mN cN) (u := .slice (some ⟨wr.heap.size + 1, 0, none⟩) 1 1) ?_ ?_ HRUN.out ⟨fun d hd => by cases hd; simp [Rg.Fk, Rg.Ex], HF6.out, hI.app ⟨rfl, rfl⟩ (by rw [hmc.size]; decide) (by decide) h2 h6 (by decide)⟩
              · simp [Act.eval, hR]
              · simp [Act.eval, hR]
          · exact ⟨rfl, fun _ => rfl, fun q => by simp at q, fun q => by simp at q, fun q => by simp at q⟩
          · rintro w5 hS _ rfl _ rfl _ rfl _ rfl _ rfl _ rfl _ rfl _ rfl _ rfl hI
            obtain ⟨-, hw⟩ := hI.i8 rfl
            subst hw
            clear hI hS
            go_wp2
            go_roundw
            case rel => exact ⟨j + 1, _, _, by omega, by go_num, HNL.out, ⟨_, _, _, rfl⟩, HSN.out⟩
            case measure => simp [intOf]; omega
        · have hnm := (nm_of_rt hsn.rt).mono (E := fun k => k = w1.heap.size + 1) (fun k _ e => by omega)
          have hrow := (HSA.out.ox.rows.mono (E := fun k => k = w1.heap.size + 1) (fun k _ e => by omega)).kept hsn.keep (fun k e => e)
          obtain ⟨aN', cN', e, -⟩ := hnm.shape
          simp only [Value.slice.injEq] at e
          obtain ⟨-, rfl, -⟩ := e
          obtain ⟨aA', cA', e, -⟩ := hrow.shape
          simp only [Value.slice.injEq] at e
          obtain ⟨-, rfl, -⟩ := e
          have hG1 : Grew w wo := HGW.out.trans HSA.out.keep (fun k hk e => by have := HG1.out.size; omega)
          have hG2 : Grew w wr := hG1.trans hsn.keep (fun k hk e => by have := HG1.out.size; omega)
          have hSm : ∀ x ∈ xs, Sm x := fun x hx => by rw [HSA.out.all x hx]; exact .mk _ _ _ _ (by simp) (by simp) (by simp) (by simp)
          obtain ⟨B, hB⟩ : ∃ B, B = (oks xs && shp kd t ns xs.length) := ⟨_, rfl⟩
          have HR1 := hid (fun W (g : Grew wr W) => by have := right_row (HGL.out.grew hG2) hrow hSm (by omega) W g kd t _ ns hnm (by omega) (by omega); rwa [← hB] at this)
          have HR2 := hid (fun W (g : Grew wr W) => by have := refright_row hrow hSm (by omega) W g kd t _ ns hnm (by omega) (by omega); rwa [← hB] at this)
          have HC4 := hid (And.intro (cell_of_get hsn.box 0) (And.intro (cell_of_get hsn.box 1) (And.intro (cell_of_get hsn.box 2) (cell_of_get hsn.box 3))))
          have HGR := hid hG2
          clear hnm hrow hG1 hG2 hSm hB hsn HSA HSN0 HSA0 HGW HWE HT
          go_wp2_with (go_at_call 38; (with_reducible refine (h2 _).mono ?_); rintro e w2 ⟨rfl, rfl⟩)
          refine Rg.wp_region_facts 5 Grew [(50, Rg.Ex (.agg #[Kv kd, St t, .slice aN ns.length cN, .slice aA xs.length cA])), (51, Rg.Ex (.bool B)), (52, Rg.Ex (.agg #[Kv kd, St t, .slice aN ns.length cN, .slice aA xs.length cA])), (53, Rg.Ex (.bool B)), (54, Rg.Ex (.bool true))] (by kernel_rfl) (by kernel_rfl) (by rfl) (by rfl)
            (fun a => Fr.refl _ a) (fun a b c h k => h.trans k (fun _ _ f => f)) (Fr.refl _ _).drew
            (Rg.Stays.all ⟨Rg.Ex.stays _, Rg.Ex.stays _, Rg.Ex.stays _, Rg.Ex.stays _, Rg.Ex.stays _, trivial⟩) ?_ ?_
          · go_light
            refine Rg.OpGoals.cons (Rg.OpGoal.plain rfl ?_) (Rg.OpGoals.cons (Rg.OpGoal.plain rfl ?_) (Rg.OpGoals.cons (Rg.OpGoal.plain rfl ?_) (Rg.OpGoals.cons (Rg.OpGoal.plain rfl ?_) (Rg.OpGoals.cons (Rg.OpGoal.plain rfl ?_) Rg.OpGoals.none))))
            all_goals (intro a' w' hS hR; simp [Rg.Rd, Op.operands, Call.operands, Rg.Fk, Rg.Ex] at hR)
            all_goals (have e0' := hS.cell HC4.out.1 (fun f => f))
            all_goals (have e1' := hS.cell HC4.out.2.1 (fun f => f))
            all_goals (have e2' := hS.cell HC4.out.2.2.1 (fun f => f))
            all_goals (have e3' := hS.cell HC4.out.2.2.2 (fun f => f))
            all_goals try (simp [Rg.Yields, execOp, Act.eval, hR, e0', e1', e2', e3', go_sem, Rg.Fk, Rg.Ex, Fr.refl]; done)
            · simp [Rg.Yields, Act.eval, hR, go_sem, Rg.Fk, Rg.Ex]
              refine (HR1.out _ hS).mono ?_
              rintro e w2 ⟨rfl, h2⟩
              exact ⟨_, rfl, rfl, h2⟩
            · simp [Rg.Yields, Act.eval, hR, go_sem, Rg.Fk, Rg.Ex]
              refine (HR2.out _ hS).mono ?_
              rintro e w2 ⟨rfl, h2⟩
              exact ⟨_, rfl, rfl, h2⟩
          · intro w6 hS
            rintro _ rfl _ rfl _ rfl _ rfl _ rfl
            refine Rg.Then.nil ?_
            have HS := hid hS
            clear hS
            go_wp2
            go_ret
            exact ⟨rfl, HGR.out.trans HS.out (fun _ _ f => f)⟩
end Go.Proofs.Ytddcfnjmppijjaa
