import Derived.Test.YtddcfnjmppijjaaProg
import Derived.Shelf.SlIter.Nil
import Derived.Ground.GgzProg
import Derived.Shelf.SlGeneric
import Derived.Test.YtddcfnjmppijjaaV1
import Derived.Test.YtddcfnjmppijjaaU1
import Derived.Test.YtddcfnjmppijjaaU12
import Derived.Test.YtddcfnjmppijjaaP5
import Derived.StringKeys
import Derived.Test.YtddcfnjmppijjaaU16
/-! The contracts of maps.Keys and slices.Sorted at this program, in plain words. -/
namespace Go.Proofs
open Go.Shelf
def Try.keysA_ren : Go.Shelf.Ren := ⟨fun | 7 => 55 | 10 => 80 | n => n, fun | 23 => 79 | 26 => 9 | 3 => 4 | 28 => 94 | 0 => 0 | 27 => 93 | 33 => 117 | 4 => 4 | n => n, fun | n => n⟩
theorem Try.keysA : Go.Proofs.SlLaysZ.n7 Try.prog Try.keysA_ren := {
  mixed := by kernel_rfl
  f7 := ⟨Try.f55.name, by decide, Try.func55.trans (congrArg some (by kernel_rfl))⟩
  f10 := ⟨Try.f80.name, by decide, Try.func80.trans (congrArg some (by kernel_rfl))⟩
  t0 := Try.underlying0
  a0 := Try.isAgg0
  z0 := Try.sizeOf0
  v0 := Try.zeroValue0
  t4 := Try.underlying4
  a4 := Try.isAgg4
  z4 := Try.sizeOf4
  v4 := Try.zeroValue4
  t23 := Try.underlying79
  a23 := Try.isAgg79
  z23 := Try.sizeOf79
  v23 := Try.zeroValue79
  t26 := Try.underlying9
  a26 := Try.isAgg9
  z26 := Try.sizeOf9
  v26 := Try.zeroValue9
  t27 := Try.underlying93
  a27 := Try.isAgg93
  z27 := Try.sizeOf93
  v27 := Try.zeroValue93
  t28 := Try.underlying94
  a28 := Try.isAgg94
  z28 := Try.sizeOf94
  v28 := Try.zeroValue94
  t33 := Try.underlying117
  a33 := Try.isAgg117
  z33 := Try.sizeOf117
  v33 := Try.zeroValue117 }
def Try.sortedA_ren : Go.Shelf.Ren := ⟨fun | 6 => 54 | 8 => 79 | 9 => 62 | 11 => 96 | 13 => 88 | 12 => 87 | 23 => 109 | 24 => 110 | 14 => 100 | 15 => 101 | 16 => 102 | 17 => 103 | 18 => 104 | 19 => 105 | 20 => 106 | 21 => 107 | 22 => 108 | 25 => 116 | 26 => 117 | 27 => 118 | 28 => 119 | 29 => 120 | 30 => 121 | 31 => 129 | n => n, fun | 26 => 9 | 28 => 94 | 24 => 25 | 0 => 0 | 3 => 3 | 37 => 46 | 48 => 148 | 50 => 150 | 4 => 4 | 40 => 141 | 39 => 140 | 45 => 145 | 5 => 5 | 9 => 9 | 51 => 153 | 55 => 157 | 57 => 164 | 58 => 165 | 33 => 117 | n => n, fun | n => n⟩
theorem Try.sortedA : Go.Proofs.SlLaysZ.n6 Try.prog Try.sortedA_ren := {
  mixed := by kernel_rfl
  f6 := ⟨Try.f54.name, by decide, Try.func54.trans (congrArg some (by kernel_rfl))⟩
  f8 := ⟨Try.f79.name, by decide, Try.func79.trans (congrArg some (by kernel_rfl))⟩
  f11 := ⟨Try.f96.name, by decide, Try.func96.trans (congrArg some (by kernel_rfl))⟩
  t0 := Try.underlying0
  a0 := Try.isAgg0
  z0 := Try.sizeOf0
  v0 := Try.zeroValue0
  t24 := Try.underlying25
  a24 := Try.isAgg25
  z24 := Try.sizeOf25
  v24 := Try.zeroValue25
  t26 := Try.underlying9
  a26 := Try.isAgg9
  z26 := Try.sizeOf9
  v26 := Try.zeroValue9
  t28 := Try.underlying94
  a28 := Try.isAgg94
  z28 := Try.sizeOf94
  v28 := Try.zeroValue94
  i26 := by kernel_rfl }
end Go.Proofs

/-! thunkref8.Same, thunklaw8.needs. -/
namespace Go.Proofs.Ytddcfnjmppijjaa
open Go.RowKit

/-- what lies at the i-th need -/
theorem Nd.at {w : World} {D : Nat → Prop} {v : Value} {l : Ned} (h : Nd w D v l) (hne : l ≠ []) : ∃ g o cap, v = .slice (some ⟨g, o, none⟩) l.length cap ∧ l.length ≤ cap ∧ cap ≤ maxLen ∧ ¬ D g ∧ ∀ i n, l[i]? = some n → w.cell? ⟨g, o + i * 2, none⟩ = some (St n.1) ∧ ∃ a c, w.cell? ⟨g, o + i * 2 + 1, none⟩ = some (.slice a n.2.length c) ∧ Bo w D (.slice a n.2.length c) n.2 := by
  obtain ⟨ad, cap, h1, h2, h3, h4⟩ := h
  obtain ⟨g, o, rfl, h5, h6⟩ := h4.resolve_left hne
  exact ⟨g, o, cap, h1, h2, h3, h5, h6⟩

set_option maxHeartbeats 8000000 in
set_option maxRecDepth 100000 in
/-- Same -/
theorem same_needs {w : World} {D E : Nat → Prop} {a b : Value} {nl : Ned} (ha : Nd w D a nl) (hb : Nd w E b nl) : Calls Try.prog 19 #[a, b] w fun e w' => e = .returned (.bool true) ∧ Grew w w' := by
  have HA := hid ha
  have HB := hid hb
  obtain ⟨aa, ca, rfl, ha1, ha2, -⟩ := ha
  obtain ⟨ab, cb, rfl, hb1, hb2, -⟩ := hb
  replace ha2 : ca ≤ 9223372036854775807 := ha2
  replace hb2 : cb ≤ 9223372036854775807 := hb2
  go_enter Try.func19, Try.ntmps19
  go_wp2
  go_loopw [5] (fun iv wr => ∃ j : Nat, j ≤ nl.length ∧ iv = .int .i64 j ∧ Grew w wr) (fun iv _ => nl.length - (intOf iv).toNat)
  case atStart => exact ⟨0, Nat.zero_le _, rfl, Fr.refl _ _⟩
  case round =>
    obtain ⟨j, hj, rfl, hgr⟩ := hrel
    have HGR := hid hgr
    by_cases hlt : j < nl.length
    · obtain ⟨n, hn⟩ := at_of_lt hlt
      obtain ⟨gA, oA, cA, eA, -, -, -, hela⟩ := HA.out.at (fun e => by rw [e] at hlt; simp at hlt)
      obtain ⟨gB, oB, cB, eB, -, -, -, helb⟩ := HB.out.at (fun e => by rw [e] at hlt; simp at hlt)
      simp only [Value.slice.injEq] at eA eB
      obtain ⟨rfl, -, rfl⟩ := eA
      obtain ⟨rfl, -, rfl⟩ := eB
      obtain ⟨hs1, aX, cX, hx1, hx2⟩ := hela j n hn
      obtain ⟨hs2, aY, cY, hy1, hy2⟩ := helb j n hn
      obtain ⟨bs, hbs⟩ : ∃ q, n.2 = q := ⟨_, rfl⟩
      rw [hbs] at hx1 hx2 hy1 hy2
      have HXB := hid hx2
      have HYB := hid hy2
      obtain ⟨_, _, eX, hX1, hX2⟩ := hx2.shape
      simp only [Value.slice.injEq] at eX
      obtain ⟨-, -, rfl⟩ := eX
      replace hX2 : cX ≤ 9223372036854775807 := hX2
      have HCA := hid (And.intro (hgr.cell hs1 (fun f => f)) (hgr.cell hx1 (fun f => f)))
      have HCB := hid (And.intro (hgr.cell hs2 (fun f => f)) (hgr.cell hy1 (fun f => f)))
      have HCA0 := hid hx1
      have HCB0 := hid hy1
      clear hela helb hs1 hs2 hx1 hx2 hy1 hy2 hn hgr hbs
      go_upto_region 6 with (fail)
      refine Rg.wp_region_facts 26 Grew [(18, Rg.Ex (.slice (some ⟨gA, oA, none⟩) nl.length ca)), (19, Rg.Ex (.int .i64 (j : Int))), (20, Rg.Ex (.pointer (some ⟨gA, oA + j * 2, none⟩))), (21, Rg.Ex (.pointer (some ⟨gA, oA + j * 2, none⟩))), (22, Rg.Ex (St n.1)), (23, Rg.Ex (.slice (some ⟨gB, oB, none⟩) nl.length cb)), (24, Rg.Ex (.int .i64 (j : Int))), (25, Rg.Ex (.pointer (some ⟨gB, oB + j * 2, none⟩))), (26, Rg.Ex (.pointer (some ⟨gB, oB + j * 2, none⟩))), (27, Rg.Ex (St n.1)), (28, Rg.Ex (.bool false)), (29, Rg.Ex (.bool false)), (30, Rg.Ex (.slice (some ⟨gA, oA, none⟩) nl.length ca)), (31, Rg.Ex (.int .i64 (j : Int))), (32, Rg.Ex (.pointer (some ⟨gA, oA + j * 2, none⟩))), (33, Rg.Ex (.pointer (some ⟨gA, oA + j * 2 + 1, none⟩))), (34, Rg.Ex (.slice aX bs.length cX)), (35, Rg.Ex (.int .i64 (bs.length : Int))), (36, Rg.Ex (.slice (some ⟨gB, oB, none⟩) nl.length cb)), (37, Rg.Ex (.int .i64 (j : Int))), (38, Rg.Ex (.pointer (some ⟨gB, oB + j * 2, none⟩))), (39, Rg.Ex (.pointer (some ⟨gB, oB + j * 2 + 1, none⟩))), (40, Rg.Ex (.slice aY bs.length cY)), (41, Rg.Ex (.int .i64 (bs.length : Int))), (42, Rg.Ex (.bool false)), (43, Rg.Ex (.bool false))] (by kernel_rfl) (by kernel_rfl) (by rfl) (by rfl)
        (fun a => Fr.refl _ a) (fun a b c h k => h.trans k (fun _ _ f => f)) (Fr.refl _ _).drew
        (Rg.Stays.all ⟨Rg.Ex.stays _, Rg.Ex.stays _, Rg.Ex.stays _, Rg.Ex.stays _, Rg.Ex.stays _, Rg.Ex.stays _, Rg.Ex.stays _, Rg.Ex.stays _, Rg.Ex.stays _, Rg.Ex.stays _, Rg.Ex.stays _, Rg.Ex.stays _, Rg.Ex.stays _, Rg.Ex.stays _, Rg.Ex.stays _, Rg.Ex.stays _, Rg.Ex.stays _, Rg.Ex.stays _, Rg.Ex.stays _, Rg.Ex.stays _, Rg.Ex.stays _, Rg.Ex.stays _, Rg.Ex.stays _, Rg.Ex.stays _, Rg.Ex.stays _, Rg.Ex.stays _, trivial⟩) ?_ ?_
      · go_light
        refine Rg.OpGoals.cons (Rg.OpGoal.plain rfl ?_) (Rg.OpGoals.cons (Rg.OpGoal.plain rfl ?_) (Rg.OpGoals.cons (Rg.OpGoal.plain rfl ?_) (Rg.OpGoals.cons (Rg.OpGoal.plain rfl ?_) (Rg.OpGoals.cons (Rg.OpGoal.plain rfl ?_) (Rg.OpGoals.cons (Rg.OpGoal.plain rfl ?_) (Rg.OpGoals.cons (Rg.OpGoal.plain rfl ?_) (Rg.OpGoals.cons (Rg.OpGoal.plain rfl ?_) (Rg.OpGoals.cons (Rg.OpGoal.plain rfl ?_) (Rg.OpGoals.cons (Rg.OpGoal.plain rfl ?_) (Rg.OpGoals.cons (Rg.OpGoal.plain rfl ?_) (Rg.OpGoals.cons (Rg.OpGoal.plain rfl ?_) (Rg.OpGoals.cons (Rg.OpGoal.guarded (d := 29) (want := false) rfl (fun _ _ h => h) ?_) (Rg.OpGoals.cons (Rg.OpGoal.guarded (d := 29) (want := false) rfl (fun _ _ h => h) ?_) (Rg.OpGoals.cons (Rg.OpGoal.guarded (d := 29) (want := false) rfl (fun _ _ h => h) ?_) (Rg.OpGoals.cons (Rg.OpGoal.guarded (d := 29) (want := false) rfl (fun _ _ h => h) ?_) (Rg.OpGoals.cons (Rg.OpGoal.guarded (d := 29) (want := false) rfl (fun _ _ h => h) ?_) (Rg.OpGoals.cons (Rg.OpGoal.guarded (d := 29) (want := false) rfl (fun _ _ h => h) ?_) (Rg.OpGoals.cons (Rg.OpGoal.guarded (d := 29) (want := false) rfl (fun _ _ h => h) ?_) (Rg.OpGoals.cons (Rg.OpGoal.guarded (d := 29) (want := false) rfl (fun _ _ h => h) ?_) (Rg.OpGoals.cons (Rg.OpGoal.guarded (d := 29) (want := false) rfl (fun _ _ h => h) ?_) (Rg.OpGoals.cons (Rg.OpGoal.guarded (d := 29) (want := false) rfl (fun _ _ h => h) ?_) (Rg.OpGoals.cons (Rg.OpGoal.guarded (d := 29) (want := false) rfl (fun _ _ h => h) ?_) (Rg.OpGoals.cons (Rg.OpGoal.guarded (d := 29) (want := false) rfl (fun _ _ h => h) ?_) (Rg.OpGoals.cons (Rg.OpGoal.guarded (d := 29) (want := false) rfl (fun _ _ h => h) ?_) (Rg.OpGoals.cons (Rg.OpGoal.plain rfl ?_) Rg.OpGoals.none)))))))))))))))))))))))))
        all_goals (intro a' w' hS hR; simp [Rg.Rd, Op.operands, Call.operands, Rg.Fk, Rg.Ex] at hR)
        all_goals (have a0' := hS.cell HCA.out.1 (fun f => f))
        all_goals (have a1' := hS.cell HCA.out.2 (fun f => f))
        all_goals (have b0' := hS.cell HCB.out.1 (fun f => f))
        all_goals (have b1' := hS.cell HCB.out.2 (fun f => f))
        all_goals try (simp [Rg.Yields, execOp, Act.eval, hR, a0', a1', b0', b1', hlt, go_sem, Rg.Fk, Rg.Ex, Fr.refl]; done)
      · intro w5 hS
        rintro _ rfl _ rfl _ rfl _ rfl _ rfl _ rfl _ rfl _ rfl _ rfl _ rfl _ rfl _ rfl _ rfl _ rfl _ rfl _ rfl _ rfl _ rfl _ rfl _ rfl _ rfl _ rfl _ rfl _ rfl _ rfl _ rfl
        refine Rg.Then.nil ?_
        have HG5 := hid (HGR.out.trans hS (fun _ _ f => f))
        clear hS
        go_wp2
        go_loopw [6] (fun iv wr => ∃ k : Nat, k ≤ bs.length ∧ iv = .int .i64 k ∧ Grew w wr) (fun iv _ => bs.length - (intOf iv).toNat)
        case atStart => exact ⟨0, Nat.zero_le _, rfl, HG5.out⟩
        case round =>
          obtain ⟨k, hk, rfl, hgr⟩ := hrel
          have HGR2 := hid hgr
          have nx := hgr.cell HCA0.out (fun f => f)
          by_cases hkl : k < bs.length
          · obtain ⟨b, hb⟩ := at_of_lt hkl
            obtain ⟨_, _, e, -, -, h4⟩ := HXB.out
            simp only [Value.slice.injEq] at e
            obtain ⟨rfl, -, rfl⟩ := e
            obtain ⟨gX, oX, rfl, -, hxc⟩ := h4.resolve_left (fun e => by rw [e] at hkl; simp at hkl)
            obtain ⟨_, _, e, -, -, h4⟩ := HYB.out
            simp only [Value.slice.injEq] at e
            obtain ⟨rfl, -, rfl⟩ := e
            obtain ⟨gY, oY, rfl, -, hyc⟩ := h4.resolve_left (fun e => by rw [e] at hkl; simp at hkl)
            have HNX := hid (hgr.cell HCA0.out (fun f => f))
            have HNY := hid (hgr.cell HCB0.out (fun f => f))
            have HBX := hid (hgr.cell (hxc k b hb) (fun f => f))
            have HBY := hid (hgr.cell (hyc k b hb) (fun f => f))
            clear hxc hyc hb hgr h4
            go_upto_region 11 with (fail)
            clear nx
            refine Rg.wp_region_facts 17 Grew [(54, Rg.Ex (.slice (some ⟨gA, oA, none⟩) nl.length ca)), (55, Rg.Ex (.int .i64 (j : Int))), (56, Rg.Ex (.pointer (some ⟨gA, oA + j * 2, none⟩))), (57, Rg.Ex (.pointer (some ⟨gA, oA + j * 2 + 1, none⟩))), (58, Rg.Ex (.slice (some ⟨gX, oX, none⟩) bs.length cX)), (59, Rg.Ex (.int .i64 (k : Int))), (60, Rg.Ex (.pointer (some ⟨gX, oX + k, none⟩))), (61, Rg.Ex (.bool b)), (62, Rg.Ex (.slice (some ⟨gB, oB, none⟩) nl.length cb)), (63, Rg.Ex (.int .i64 (j : Int))), (64, Rg.Ex (.pointer (some ⟨gB, oB + j * 2, none⟩))), (65, Rg.Ex (.pointer (some ⟨gB, oB + j * 2 + 1, none⟩))), (66, Rg.Ex (.slice (some ⟨gY, oY, none⟩) bs.length cY)), (67, Rg.Ex (.int .i64 (k : Int))), (68, Rg.Ex (.pointer (some ⟨gY, oY + k, none⟩))), (69, Rg.Ex (.bool b)), (70, Rg.Ex (.bool false))] (by kernel_rfl) (by kernel_rfl) (by rfl) (by rfl)
              (fun a => Fr.refl _ a) (fun a b c h k => h.trans k (fun _ _ f => f)) (Fr.refl _ _).drew
              (Rg.Stays.all ⟨Rg.Ex.stays _, Rg.Ex.stays _, Rg.Ex.stays _, Rg.Ex.stays _, Rg.Ex.stays _, Rg.Ex.stays _, Rg.Ex.stays _, Rg.Ex.stays _, Rg.Ex.stays _, Rg.Ex.stays _, Rg.Ex.stays _, Rg.Ex.stays _, Rg.Ex.stays _, Rg.Ex.stays _, Rg.Ex.stays _, Rg.Ex.stays _, Rg.Ex.stays _, trivial⟩) ?_ ?_
            · go_light
              refine Rg.OpGoals.cons (Rg.OpGoal.plain rfl ?_) (Rg.OpGoals.cons (Rg.OpGoal.plain rfl ?_) (Rg.OpGoals.cons (Rg.OpGoal.plain rfl ?_) (Rg.OpGoals.cons (Rg.OpGoal.plain rfl ?_) (Rg.OpGoals.cons (Rg.OpGoal.plain rfl ?_) (Rg.OpGoals.cons (Rg.OpGoal.plain rfl ?_) (Rg.OpGoals.cons (Rg.OpGoal.plain rfl ?_) (Rg.OpGoals.cons (Rg.OpGoal.plain rfl ?_) (Rg.OpGoals.cons (Rg.OpGoal.plain rfl ?_) (Rg.OpGoals.cons (Rg.OpGoal.plain rfl ?_) (Rg.OpGoals.cons (Rg.OpGoal.plain rfl ?_) (Rg.OpGoals.cons (Rg.OpGoal.plain rfl ?_) (Rg.OpGoals.cons (Rg.OpGoal.plain rfl ?_) (Rg.OpGoals.cons (Rg.OpGoal.plain rfl ?_) (Rg.OpGoals.cons (Rg.OpGoal.plain rfl ?_) (Rg.OpGoals.cons (Rg.OpGoal.plain rfl ?_) (Rg.OpGoals.cons (Rg.OpGoal.plain rfl ?_) Rg.OpGoals.none))))))))))))))))
              all_goals (intro a' w' hS hR; simp [Rg.Rd, Op.operands, Rg.Fk, Rg.Ex] at hR)
              all_goals (have a1' := hS.cell HNX.out (fun f => f))
              all_goals (have b1' := hS.cell HNY.out (fun f => f))
              all_goals (have bx' := hS.cell HBX.out (fun f => f))
              all_goals (have by' := hS.cell HBY.out (fun f => f))
              all_goals try (simp [Rg.Yields, execOp, Act.eval, hR, a1', b1', bx', by', hlt, hkl, go_sem, Rg.Fk, Rg.Ex, Fr.refl]; done)
            · intro w8 hS
              rintro _ rfl _ rfl _ rfl _ rfl _ rfl _ rfl _ rfl _ rfl _ rfl _ rfl _ rfl _ rfl _ rfl _ rfl _ rfl _ rfl _ rfl
              refine Rg.Then.nil ?_
              have HG9 := hid (HGR2.out.trans hS (fun _ _ f => f))
              clear hS
              go_wp2
              go_roundw
              case rel => exact ⟨k + 1, by omega, by go_num, HG9.out⟩
              case measure => simp [intOf]; omega
          · obtain rfl : k = bs.length := by omega
            clear hgr
            go_wp2
            go_roundw
            case rel => exact ⟨j + 1, by omega, by go_num, HGR2.out⟩
            case measure => simp [intOf]; omega
    · obtain rfl : j = nl.length := by omega
      clear hgr
      go_wp2
      go_ret
      exact ⟨rfl, HGR.out⟩

theorem ty31' : ElTy 31 44 2 := .of (bytes := 40) (z := .agg #[.string ⟨#[]⟩, .slice none 0 0]) (by kernel_rfl) (by kernel_rfl) (by omega) rfl (by omega)

set_option maxHeartbeats 8000000 in
set_option maxRecDepth 100000 in
/-- needs -/
theorem conv_needs {B : Nat} {w : World} {v : Value} {L : List NdD} {nl : Ned} (h : NS 42 B w v L nl) (hB : B ≤ w.heap.size) (hl : L.length ≤ 900000) : Calls Try.prog 20 #[v] w fun e w' => ∃ a m c, e = .returned (.slice a m c) ∧ NS 44 B w' (.slice a m c) L nl ∧ Grew w w' := by
  have HNS := hid h
  obtain ⟨aN, cN, rfl, hn1, hn2⟩ := h.row.shape
  replace hn2 : cN ≤ 9223372036854775807 := hn2
  clear h
  go_enter Try.func20, Try.ntmps20
  go_wp2
  go_loopw [3, 4] (fun lv iv wr => ∃ (j : Nat) (aO : Option Addr) (mO cO : Nat), j ≤ L.length ∧ iv = .int .i64 j ∧ lv = .slice aO mO cO ∧ RowOf 44 2 NdD.cells w.heap.size wr (.slice aO mO cO) (L.take j) ∧ Grew w wr) (fun _ iv _ => L.length - (intOf iv).toNat)
  case atStart => exact ⟨0, none, 0, 0, Nat.zero_le _, rfl, rfl, RowOf.nil _ _ _ _ _, Fr.refl _ _⟩
  case round =>
    obtain ⟨j, aO, mO, cO, hj, rfl, rfl, hrow, hgr⟩ := hrel
    have HROW := hid hrow
    have HGR := hid hgr
    by_cases hlt : j < L.length
    · obtain ⟨d, hd⟩ := at_of_lt hlt
      obtain ⟨gN, cN2, eN, -, -, -, hgN, hcell⟩ := HNS.out.row.at NdD.len (fun e => by rw [e] at hlt; simp at hlt)
      simp only [Value.slice.injEq] at eN
      obtain ⟨rfl, -, rfl⟩ := eN
      have HN0 := hid (show wr.cell? ⟨gN, j * 2, none⟩ = some (St d.s) from hgr.cell (hcell j d hd 0 (by omega)) (fun f => f))
      have HN1 := hid (show wr.cell? ⟨gN, j * 2 + 1, none⟩ = some (.slice d.ao d.n d.co) from hgr.cell (hcell j d hd 1 (by omega)) (fun f => f))
      have HTK := hid (show L.take (j + 1) = L.take j ++ [d] by rw [List.take_add_one, hd]; rfl)
      have HGN := hid hgN
      have HLL := hid (show (L.take j).length ≤ 900000 by rw [List.length_take]; omega)
      have HOWN := hid (show ∀ g, (Value.slice aO mO cO).ownBlock = some g → w.heap.size ≤ g from fun g e => (hrow.lt e).1)
      clear hcell hd hrow hgr hgN
      go_upto_region 5 with (fail)
      refine Rg.wp_region_factsJ 14 (Ch (QR 44 2 NdD.cells w.heap.size wr (.slice aO mO cO) (L.take j) d) 26 [12, 13] [23, 24]) (Fr (fun k => (Value.slice aO mO cO).ownBlock = some k)) [(11, Rg.Ex (.slice aO mO cO)), (12, Rg.Ex (.slice (some ⟨gN, 0, none⟩) L.length cN)), (13, Rg.Ex (.int .i64 (j : Int))), (14, Rg.Ex (.pointer (some ⟨gN, j * 2, none⟩))), (15, Rg.Ex (.pointer (some ⟨gN, j * 2, none⟩))), (16, Rg.Ex (St d.s)), (17, Rg.Ex (.slice (some ⟨gN, 0, none⟩) L.length cN)), (18, Rg.Ex (.int .i64 (j : Int))), (19, Rg.Ex (.pointer (some ⟨gN, j * 2, none⟩))), (20, Rg.Ex (.pointer (some ⟨gN, j * 2 + 1, none⟩))), (21, Rg.Ex (.slice d.ao d.n d.co)), (22, Rg.Ex (.agg #[St d.s, .slice d.ao d.n d.co])), (23, FAny), (24, FAny)] (by kernel_rfl) (by kernel_rfl) (by rfl) (by rfl)
        (fun a => Fr.refl _ a) (fun a b c h k => h.trans k (fun _ _ f => f)) (Fr.refl _ _).drew
        (Rg.Stays.all ⟨Rg.Ex.stays _, Rg.Ex.stays _, Rg.Ex.stays _, Rg.Ex.stays _, Rg.Ex.stays _, Rg.Ex.stays _, Rg.Ex.stays _, Rg.Ex.stays _, Rg.Ex.stays _, Rg.Ex.stays _, Rg.Ex.stays _, Rg.Ex.stays _, (fun _ _ _ _ _ => trivial), (fun _ _ _ _ _ => trivial), trivial⟩) ?_ ?_ ?_
      · go_light
        refine Rg.OpGoalsJ.cons ⟨rfl, ?_⟩ (Rg.OpGoalsJ.cons ⟨rfl, ?_⟩ (Rg.OpGoalsJ.cons ⟨rfl, ?_⟩ (Rg.OpGoalsJ.cons ⟨rfl, ?_⟩ (Rg.OpGoalsJ.cons ⟨rfl, ?_⟩ (Rg.OpGoalsJ.cons ⟨rfl, ?_⟩ (Rg.OpGoalsJ.cons ⟨rfl, ?_⟩ (Rg.OpGoalsJ.cons ⟨rfl, ?_⟩ (Rg.OpGoalsJ.cons ⟨rfl, ?_⟩ (Rg.OpGoalsJ.cons ⟨rfl, ?_⟩ (Rg.OpGoalsJ.cons ⟨rfl, ?_⟩ (Rg.OpGoalsJ.cons ⟨rfl, ?_⟩ (Rg.OpGoalsJ.cons ⟨rfl, ?_⟩ (Rg.OpGoalsJ.cons ⟨rfl, ?_⟩ Rg.OpGoalsJ.none)))))))))))))
        all_goals (intro listed a' w' hmc hS hI hR; simp [Rg.Rd, Op.operands, Call.operands, Rg.Fk, Rg.Ex] at hR)
        all_goals (have hIo := fun i d v (h1 : i ∉ ([12, 13] : List Nat)) (h2 : d ∉ ([23, 24] : List Nat)) => hI.pure (i := i) (d := d) v h1 h2)
        all_goals (have n0' := hS.cell HN0.out (fun e => by have := HOWN.out _ e; have := HGN.out; simp at *; omega))
        all_goals (have n1' := hS.cell HN1.out (fun e => by have := HOWN.out _ e; have := HGN.out; simp at *; omega))
        all_goals try (simp [Rg.Yields, execOp, Act.eval, hR, n0', n1', hlt, go_sem, Rg.Fk, Rg.Ex, FAny, Fr.refl]; exact hIo _ _ _ (by decide) (by decide))
        · obtain ⟨hq, hcome⟩ := hI.come (j := 0) (p := 12) (d := 23) rfl rfl hmc.not (fun i q hi _ => absurd hi (Nat.not_lt_zero i)) rfl (by rw [hmc.size]; decide) (by decide) (by decide) (by decide)
          simp [Rg.Yields, execOp, Act.eval, hR, go_sem, Rg.Fk, Rg.Ex, FAny]
          exact ⟨Grew.any ((Fr.refl _ _).alloc _), hcome _ _ (QR.build hq)⟩
        · have l0 := hmc.own { on := 12, ground := .data } (by simp) rfl
          obtain ⟨hq, hcome⟩ := hI.come (j := 1) (p := 13) (d := 24) rfl rfl hmc.not (fun i q hi hq => by rcases (show i = 0 by omega) with rfl <;> (cases hq; first | exact l0)) rfl (by rw [hmc.size]; decide) (by decide) (by decide) (by decide)
          obtain ⟨v1, w6, hrun, h8, hf8⟩ := QR.app hq (HROW.out) ty31' NdD.len d.one HGR.out.size HLL.out 31
          refine Yields_app rfl ?_ rfl hrun ⟨fun d hd => by cases hd; simp [Rg.Fk, FAny], hf8, hcome _ _ h8⟩
          show a'.tmps.getD 11 undef = _
          rw [Array.getD_eq_getD_getElem?]; first | exact hR.1 | exact hR
      · refine Ch.none (by rfl) _ ?_
        exact (show Grew wr wr.drew from (Fr.refl _ _).drew)
      · intro w7 hS7
        rintro _ rfl _ rfl _ rfl _ rfl _ rfl _ rfl _ rfl _ rfl _ rfl _ rfl _ rfl _ rfl v23 _ v24 _ hI
        have hsz := hI.sz
        have hall := hI.all rfl (by decide)
        simp only [List.map_cons, List.map_nil, List.length_cons, List.length_nil] at hall
        rw [Rg.put_getD_ne _ (by decide), Rg.put_getD_eq _ (by simp only [put_size'] at hsz ⊢; rw [hsz]; decide), Rg.put_getD_eq _ (by simp only [put_size'] at hsz ⊢; rw [hsz]; decide)] at hall
        clear hI hsz
        obtain ⟨h8, h9, -, a8, m8, c8, rfl⟩ := hall
        have HR8 := hid (show RowOf 44 2 NdD.cells w.heap.size w7 (.slice a8 m8 c8) (L.take (j + 1)) by rw [HTK.out]; exact h8)
        have HG8 := hid (HGR.out.trans h9 (fun c hc e => by have := HOWN.out c e; omega))
        clear h8 h9 hS7
        go_wp2
        go_roundw
        case rel => first | exact ⟨j + 1, a8, m8, c8, by omega, by go_num, rfl, HR8.out, HG8.out⟩ | exact ⟨.slice a8 m8 c8, .int .i64 ((j : Int) + 1), ⟨j + 1, by omega, by go_num, a8, m8, c8, rfl, HR8.out, HG8.out⟩, rfl, rfl⟩ | exact ⟨.slice a8 m8 c8, .int .i64 ((j : Int) + 1), ⟨j + 1, a8, m8, c8, by omega, by go_num, rfl, HR8.out, HG8.out⟩, rfl, rfl⟩
        case measure => simp [intOf]; omega
    · obtain rfl : j = L.length := by omega
      rw [List.take_length] at HROW
      clear hrow hgr
      go_wp2
      go_ret
      refine ⟨_, _, _, rfl, ⟨HROW.out.mono hB, HNS.out.len, (HNS.out.grew HGR.out).el, fun i d hd g hg e => ?_, HNS.out.sep⟩, HGR.out⟩
      obtain ⟨bs, -, -, h3⟩ := HNS.out.el i d hd
      have h1 := (h3.lt hg).2
      have h2 := (HROW.out.lt e).1
      omega
end Go.Proofs.Ytddcfnjmppijjaa

/-! strict.Demands: the names, in order. -/
namespace Go.Proofs.Ytddcfnjmppijjaa
open Go.RowKit Go.Maps Go.Sort Go.Shelf Go.MapKept Go.ChangeMaps

theorem Try.sortsA (m : Nat) : AnyZ.SortsIn Try.prog Try.sortedA_ren Fence.wide m :=
  ⟨fun blk off cap ss W hH hblk hsz => callsIn_wide.2 (Try.slices_Sort_string blk off cap ss W hH hblk hsz),
   fun p cap W => callsIn_wide.2 (Try.slices_Sort_string_none p cap W)⟩

/-- what the keys lead to reads as nothing -/
def rdAny (_ : Value) : Option (DataW Unit × List MemPlace) := some (.lit (.bool true), [])
def keyS : Value → Str
  | .string b => b.data.toList
  | _ => []
theorem rd_anyS {x : MapEntry} {s : Str} (hk : x.key = St s) (hs : s.length ≤ maxLen) : WideElems.rd Try.prog 9 rdAny x = some (.string s, .lit (.bool true)) := by
  unfold WideElems.rd
  rw [hk, Go.WideMaps.keyOf_string_mk Try.underlying9 (by simpa [ByteArray.size] using hs)]
  simp [rdAny]

theorem keys_set {w : World} {b : Nat} {S : Str → Prop} (h : MpS w b S) {U : List Str} (hU : ∀ s, S s → s ∈ U) (hl : ∀ s ∈ U, s.length ≤ 900) (hn : U.length ≤ 400000) :
    ∃ nn D0, w.ownsMap Try.prog 9 rdAny b nn D0 ∧ (∀ ss : List Str, ss.Perm (strKeys D0) → ss.Nodup ∧ ∀ s, s ∈ ss ↔ S s) ∧ Maps.size D0 ≤ 400000 := by
  obtain ⟨g, ⟨es, clock, h1, h2, h3, h4⟩, -, h6⟩ := h
  have hSe : ∀ s, S s ↔ ∃ x ∈ es.toList, x.key = St s := fun s => by
    rw [h6 s]
    constructor
    · intro hne
      cases hg : g s with
      | none => exact absurd hg hne
      | some v => exact h4 s v hg
    · rintro ⟨x, hx, e⟩ hg
      obtain ⟨s', e', hv⟩ := h3 x hx
      have : s' = s := St_inj (e'.symm.trans e)
      subst this
      rw [hv] at hg; cases hg
  have hkey : ∀ x ∈ es.toList, ∃ s, x.key = St s ∧ s ∈ U := fun x hx => by
    obtain ⟨s, e, -⟩ := h3 x hx
    exact ⟨s, e, hU s ((hSe s).2 ⟨x, hx, e⟩)⟩
  have hpw := ((stamped_iff es clock).1 h2).2.2
  have hnd : (es.toList.map (fun x => keyS x.key)).Nodup := by
    rw [List.nodup_iff_pairwise_ne, List.pairwise_map]
    refine List.Pairwise.imp_of_mem (fun {x y} hx hy hxy e => ?_) hpw
    obtain ⟨s, es', -⟩ := hkey x hx
    obtain ⟨t, et, -⟩ := hkey y hy
    rw [es', et] at e hxy
    have : s = t := by simpa [keyS] using e
    exact hxy (by rw [this])
  have hmk : ∀ s, s ∈ es.toList.map (fun x => keyS x.key) ↔ S s := fun s => by
    rw [hSe s, List.mem_map]
    constructor
    · rintro ⟨x, hx, e⟩
      obtain ⟨t, et, -⟩ := hkey x hx
      rw [et] at e
      have : t = s := by simpa [keyS] using e
      exact ⟨x, hx, by rw [et, this]⟩
    · rintro ⟨x, hx, e⟩
      exact ⟨x, hx, by rw [e]; simp [keyS]⟩
  have hlen : es.size ≤ 400000 := by
    have h5 := nodup_len hnd (m := U) (fun s hs => hU s ((hmk s).1 hs))
    rw [List.length_map, Array.length_toList] at h5
    omega
  have hrd : ∀ x ∈ es.toList, ∃ s, x.key = St s ∧ WideElems.rd Try.prog 9 rdAny x = some (.string s, .lit (.bool true)) := fun x hx => by
    obtain ⟨s, e, hs⟩ := hkey x hx
    exact ⟨s, e, rd_anyS e (by have := hl s hs; simp [maxLen]; omega)⟩
  have hFit : WideElems.Fit Try.prog 9 rdAny es clock := ⟨by simp [maxLen]; omega, h2, fun x hx => by
    obtain ⟨s, -, e⟩ := hrd x hx
    exact ⟨_, e⟩⟩
  have hperm : (strKeys (DataW.map ((es.toList.map (WideElems.rg Try.prog 9 rdAny)).foldr DataW.insert []))).Perm (es.toList.map (fun x => keyS x.key)) := by
    show (((es.toList.map (WideElems.rg Try.prog 9 rdAny)).foldr DataW.insert []).map fun p => strOf p.1).Perm _
    refine ((Go.WideShapes.sorted_perm _).map _).trans ?_
    have e1 : (es.toList.map (WideElems.rg Try.prog 9 rdAny)).map (fun p => strOf p.1) = es.toList.map (fun x => keyS x.key) := by
      rw [List.map_map]
      refine List.map_congr_left (fun x hx => ?_)
      obtain ⟨s, e, hr⟩ := hrd x hx
      simp only [Function.comp, WideElems.rg, hr, e]
      simp [strOf, keyS]
    rw [e1]
  refine ⟨es.size, _, ⟨es, clock, h1, hFit, Nat.le_refl _, rfl⟩, fun ss hss => ?_, ?_⟩
  · have hp := hss.trans hperm
    exact ⟨hp.nodup_iff.2 hnd, fun s => hp.mem_iff.trans (hmk s)⟩
  · show ((es.toList.map (WideElems.rg Try.prog 9 rdAny)).foldr DataW.insert []).length ≤ _
    rw [(Go.WideShapes.sorted_perm _).length_eq, List.length_map]
    simpa using hlen

mutual
theorem smn_vs {n : Nat} : ∀ x : X, Smn n x → ∀ s ∈ x.vs, s.length ≤ n
  | .mk k t ns a, h, s, hs => by
    cases h with
    | mk _ _ _ _ ht _ _ h =>
      simp only [X.vs, List.mem_cons] at hs
      rcases hs with rfl | hs
      · exact ht
      · exact smn_vss a h s hs
theorem smn_vss {n : Nat} : ∀ l : List X, (∀ x ∈ l, Smn n x) → ∀ s ∈ vss l, s.length ≤ n
  | [], _, s, hs => by simp [vss] at hs
  | x :: r, h, s, hs => by
    simp only [vss, List.mem_append] at hs
    rcases hs with hs | hs
    · exact smn_vs x (h x (by simp)) s hs
    · exact smn_vss r (fun y hy => h y (by simp [hy])) s hs
end
/-- what Demands answers -/
def DmsPost (w : World) (d : DS) (e : Ending) (w' : World) : Prop := ∃ a c A ks, e = .returned (.tuple #[.slice a ks.length c, .bool A]) ∧ RS w' a c A ks d ∧ Grew w w'
/-- what maps.Keys hands out -/
def FKy (mb : Nat) (v : Value) (w : World) : Prop := ∃ g, v = .func (.func 80) #[] #[.pointer (some ⟨g, 0, none⟩)] ∧ w.cell? ⟨g, 0, none⟩ = some (.map (some mb))
theorem FKy.stays (mb : Nat) (v : Value) (w w' : World) (h : Grew w w') (k : FKy mb v w) : FKy mb v w' := by
  obtain ⟨g, e, k⟩ := k
  exact ⟨g, e, h.cell k (fun f => f)⟩
/-- the names in order -/
def FKs (S : Str → Prop) (v : Value) (w : World) : Prop := ∃ ks, Nm w (fun _ => False) v ks ∧ ks.Pairwise (fun x y => x ≤ y) ∧ ks.Nodup ∧ (∀ s, s ∈ ks ↔ S s) ∧ ks.length ≤ 400000
theorem FKs.stays (S : Str → Prop) (v : Value) (w w' : World) (h : Grew w w') (k : FKs S v w) : FKs S v w' := by
  obtain ⟨ks, k1, k2⟩ := k
  exact ⟨ks, k1.grew h, k2⟩
theorem keys_call (W : World) (mb : Nat) : Calls Try.prog 55 #[.map (some mb)] W fun e w' => e = .returned (.func (.func 80) #[] #[.pointer (some ⟨W.heap.size, 0, none⟩)]) ∧ w' = W.alloc (.cells #[.map (some mb)] 79) :=
  callsIn_wide.1 (AnyZ.keys_in Try.keysA Fence.wide 5 trivial rfl (some mb) W)
theorem sorted_call {W : World} {mb g : Nat} {S : Str → Prop} (h : MpS W mb S) (hg : W.cell? ⟨g, 0, none⟩ = some (.map (some mb))) {U : List Str} (hU : ∀ s, S s → s ∈ U) (hl : ∀ s ∈ U, s.length ≤ 900) (hn : U.length ≤ 400000) :
    Calls Try.prog 54 #[.func (.func 80) #[] #[.pointer (some ⟨g, 0, none⟩)]] W fun e w' => ∃ v, e = .returned v ∧ FKs S v w' ∧ Grew W w' := by
  obtain ⟨nn, D0, hown, hss, hsz⟩ := keys_set h hU hl hn
  have hseq : SeqGives Fence.wide 2 Try.prog 80 #[.pointer (some ⟨g, 0, none⟩)] encStr (fun ss => ss.Perm (strKeys D0)) (Maps.size D0) W :=
    AnyZ.keys_gives (ρ := Try.keysA_ren) { Try.keysA with } Fence.wide _ trivial rfl (by omega) g mb nn D0 W (World.block_lt_of_cell? W _ hg) hg hown
  have cS := AnyZ.sorted_in Try.sortedA Fence.wide 5 trivial trivial trivial trivial rfl (by omega) (Try.sortsA _) (enters_of Try.func62 (by kernel_rfl) rfl) 80 #[.pointer (some ⟨g, 0, none⟩)] trivial (enters_of Try.func80 (by kernel_rfl) rfl) _ _ (by simp [maxLen]; omega) (by omega) W hseq
  change CallsIn _ _ Try.prog 54 _ _ _ at cS
  refine (callsIn_wide.1 cS).mono ?_
  rintro e w' ⟨v, ss, rfl, hS, hrow, -, hbel⟩
  obtain ⟨hnd, hmem⟩ := hss ss hS
  have hrt : Rt W.heap.size w' v (srt ss) := by
    unfold Rt
    rw [srt_length]
    exact hrow
  refine ⟨v, rfl, ⟨srt ss, (nm_of_rt hrt).mono (fun _ _ f => f.elim), srt_sorted ss, srt_nodup hnd, fun s => (srt_mem ss s).trans (hmem s), ?_⟩, below_grew hbel⟩
  rw [srt_length]
  have := nodup_len hnd (m := U) (fun s hs => hU s ((hmem s).1 hs))
  omega

set_option maxHeartbeats 8000000 in
set_option maxRecDepth 100000 in
/-- Demands -/
theorem demands_any {w0 : World} {vN : Value} {nl : Ned} (hnd : Nd w0 (fun _ => False) vN nl) {e : Value} {x : X} (h : Rd w0 (fun _ => False) e x) (hx : So x) (hm : Smn 900 x) (hsz : x.size ≤ 400000) (w : World) (hw : Grew w0 w) : Calls Try.prog 24 #[e, vN] w (DmsPost w (dem nl x)) := by
  obtain ⟨vn, va, rfl, hn, hr⟩ := h
  obtain ⟨an, cn, rfl, -⟩ := hn.shape
  obtain ⟨aa, ca, rfl, -⟩ := hr.shape
  obtain ⟨W1, hW1⟩ : ∃ q : World, q = w.alloc (.cells #[Kv x.kind, St x.text, .slice an x.names.length cn, .slice aa x.parts.length ca] 28) := ⟨_, rfl⟩
  have g1 : Grew w W1 := by rw [hW1]; exact (Fr.refl _ _).alloc _
  have hbe : W1.heap[w.heap.size]? = some (.cells #[Kv x.kind, St x.text, .slice an x.names.length cn, .slice aa x.parts.length ca] 28 (0, 0)) := by rw [hW1]; exact heap_alloc_new w _
  obtain ⟨c0, c1⟩ := And.intro (cell_of_get hbe 0) (cell_of_get hbe 1)
  obtain ⟨c2, c3⟩ := And.intro (cell_of_get hbe 2) (cell_of_get hbe 3)
  have hcall := dem_any hnd (show Rd w0 (fun _ => False) _ x from ⟨_, _, rfl, hn, hr⟩) hx W1 (hw.trans g1 (fun _ _ f => f))
  obtain ⟨dm, hdm⟩ : ∃ q, q = dem nl x := ⟨_, rfl⟩
  have HIN := hid (show Ins x.vs dm by rw [hdm]; exact dem_ins nl x)
  have HVL := hid (smn_vs x hm)
  have HVN := hid (show x.vs.length ≤ 400000 by rw [vs_len]; exact hsz)
  rw [← hdm] at hcall ⊢
  have HG1 := hid g1
  obtain ⟨aN, cN, rfl, -⟩ := hnd
  clear hn hr g1 hbe hdm
  go_enter Try.func24, Try.ntmps24
  go_upto_region 1 with (fail)
  rw [← hW1]
  clear hW1
  go_upto_region 2 with (go_at_call 50; (with_reducible refine hcall.mono ?_); rintro e w5 ⟨v5, rfl, hsd, hg5⟩; clear hcall c0 c1 c2 c3; obtain ⟨mb, A, rfl⟩ := hsd.shape)
  obtain ⟨A', S, ⟨mb', e', hmB, hmp, hAS⟩, hk1, hk2⟩ := hsd
  have hbc := agg_inj e'
  have hAA : A = A' := by
    simp only [Value.agg.injEq, Array.mk.injEq, List.cons.injEq, Value.bool.injEq] at e'
    exact e'.2.1
  subst hbc
  subst hAA
  obtain ⟨W6, hW6⟩ : ∃ q : World, q = w5.alloc (.cells #[.map (some mb), .bool A] 81) := ⟨_, rfl⟩
  have g56 : Grew w5 W6 := by rw [hW6]; exact (Fr.refl _ _).alloc _
  have ho6 : W6.heap[w5.heap.size]? = some (.cells #[.map (some mb), .bool A] 81 (0, 0)) := by rw [hW6]; exact heap_alloc_new w5 _
  have HO := hid (And.intro (cell_of_get ho6 0) (cell_of_get ho6 1))
  have HMP := hid (hmp.kept g56 (fun f => f))
  have HG6 := hid ((HG1.out.trans hg5 (fun _ _ f => f)).trans g56 (fun _ _ f => f))
  have HUS := hid (show ∀ s, S s → s ∈ x.vs from fun s hs => by
    cases A
    · exact HIN.out (fun z => by have := hk1.2 z; cases this) s ((hk2 rfl s).1 hs)
    · exact absurd hs (hAS rfl s))
  have HK1 := hid hk1
  have HK2 := hid hk2
  have HAS := hid hAS
  clear e' hmB hmp hAS hk1 hk2 g56 ho6 hg5
  rw [← hW6]
  clear hW6
  refine Rg.wp_region_facts 9 Grew [(12, Rg.Ex (.pointer (some ⟨w5.heap.size, 0, none⟩))), (13, Rg.Ex (.map (some mb))), (14, FKy mb), (15, FKs S), (16, FKs S), (17, Rg.Ex (.pointer (some ⟨w5.heap.size, 1, none⟩))), (18, Rg.Ex (.bool A)), (4, FKs S), (5, Rg.Ex (.bool A))] (by kernel_rfl) (by kernel_rfl) (by rfl) (by rfl)
    (fun a => Fr.refl _ a) (fun a b c h k => h.trans k (fun _ _ f => f)) (Fr.refl _ _).drew
    (Rg.Stays.all ⟨Rg.Ex.stays _, Rg.Ex.stays _, FKy.stays _, FKs.stays _, FKs.stays _, Rg.Ex.stays _, Rg.Ex.stays _, FKs.stays _, Rg.Ex.stays _, trivial⟩) ?_ ?_
  · go_light
    refine Rg.OpGoals.cons (Rg.OpGoal.plain rfl ?_) (Rg.OpGoals.cons (Rg.OpGoal.plain rfl ?_) (Rg.OpGoals.cons (Rg.OpGoal.plain rfl ?_) (Rg.OpGoals.cons (Rg.OpGoal.plain rfl ?_) (Rg.OpGoals.cons (Rg.OpGoal.plain rfl ?_) (Rg.OpGoals.cons (Rg.OpGoal.plain rfl ?_) (Rg.OpGoals.cons (Rg.OpGoal.plain rfl ?_) (Rg.OpGoals.cons (Rg.OpGoal.plain rfl ?_) (Rg.OpGoals.cons (Rg.OpGoal.plain rfl ?_) Rg.OpGoals.none))))))))
    all_goals (intro a' w' hS hR; simp [Rg.Rd, Op.operands, Call.operands, Rg.Fk, Rg.Ex] at hR)
    all_goals (have o0' := hS.cell HO.out.1 (fun f => f))
    all_goals (have o1' := hS.cell HO.out.2 (fun f => f))
    all_goals try (simp [Rg.Yields, execOp, Act.eval, hR, o0', o1', go_sem, Rg.Fk, Rg.Ex, Fr.refl]; done)
    · simp [Rg.Yields, Act.eval, hR, go_sem, Rg.Fk, Rg.Ex]
      refine (keys_call w' mb).mono ?_
      rintro e w2 ⟨rfl, rfl⟩
      exact ⟨_, rfl, ⟨_, rfl, cell_of_get (heap_alloc_new w' _) 0⟩, (Fr.refl _ _).alloc _⟩
    · obtain ⟨g, e1, hc⟩ := hR
      simp [Rg.Yields, Act.eval, e1, go_sem, Rg.Fk, Rg.Ex]
      refine (sorted_call (HMP.out.kept hS (fun f => f)) hc HUS.out HVL.out HVN.out).mono ?_
      rintro e w2 ⟨v, rfl, h1, h2⟩
      exact ⟨v, rfl, h1, h2⟩
    · obtain ⟨ks, k1, k2, k3, k4, k5⟩ := hR
      obtain ⟨ak, ck, e1, -⟩ := k1.shape
      rw [e1] at k1
      simp [Rg.Yields, Act.eval, e1, go_sem, Rg.Fk, Rg.Ex]
      refine (clone_any k1 (by omega)).mono ?_
      rintro e w2 ⟨v, rfl, h1, -, h2⟩
      exact ⟨v, rfl, ⟨ks, (nm_of_rt h1).mono (fun _ _ f => f.elim), k2, k3, k4, k5⟩, h2⟩
  · intro w8 hS
    rintro _ rfl _ rfl v14 h14 v15 h15 v16 h16 _ rfl _ rfl v4 h4 _ rfl
    refine Rg.Then.nil ?_
    clear h14 h15 h16
    obtain ⟨ks, k1, k2, k3, k4, k5⟩ := h4
    obtain ⟨ak, ck, rfl, -⟩ := k1.shape
    have HP := hid (show DmsPost w dm (.returned (.tuple #[.slice ak ks.length ck, .bool A])) w8 from ⟨ak, ck, A, ks, rfl, ⟨k1, k2, k3, HK1.out, fun q => by
      subst q
      cases ks with
      | nil => rfl
      | cons s r => exact absurd ((k4 s).1 (by simp)) (HAS.out rfl s), fun q s => (k4 s).trans (HK2.out q s)⟩, HG6.out.trans hS (fun _ _ f => f)⟩)
    clear k1 k2 k3 k4 k5 hS
    go_wp2
    exact bodyPost_ret (v := .tuple #[.slice ak ks.length ck, .bool A]) (by simp [results, Try.results24, go_sem]) rfl HP.out
end Go.Proofs.Ytddcfnjmppijjaa

/-! thunklaw8.known. -/
namespace Go.Proofs.Ytddcfnjmppijjaa
open Go.RowKit

theorem run_ini {F : List (Str × X)} {nl : Ned} (hr : Run F nl) (h : pas F (ini F) = ini F) : nl = ini F := by
  induction hr with
  | zero => rfl
  | succ nl _ ih => rw [ih, h]

/-- a name's term -/
abbrev vr (s : Str) : X := .mk 5 s [] []
theorem rd_var (w : World) (s : Str) : Rd w (fun _ => False) (.agg #[Kv 5, St s, .slice none 0 0, .slice none 0 0]) (vr s) :=
  ⟨_, _, rfl, ⟨_, _, rfl, Nat.le_refl _, by simp [maxLen], .inl rfl⟩, .nil _ _ (by simp [maxLen])⟩
theorem ne_var {s : Str} (h : s.length ≤ 900) : Ne (vr s) := ⟨.mk _ _ _ _ (by simp) (by simp) (by simp) (by simp) (by simp), .mk _ _ _ _ h (by simp) (by simp) (by simp), .mk _ _ _ _ (by simp) (by simp)⟩
theorem ne_lam {s : Str} {x : X} (hx : Ne x) : Ne (.mk 6 [] [s] [x]) := ⟨.mk _ _ _ _ (by simp) (by simp) (by simp) (by simp) (by simpa using hx.1), .mk _ _ _ _ (by simp) (by simp) (by simp) (by simpa using hx.2.1), .mk _ _ _ _ (by simp) (by simpa using hx.2.2)⟩
theorem ne_bind {s : Str} {x y : X} (hx : Ne x) (hy : Ne y) : Ne (.mk 9 [] [s] [x, y]) := ⟨.mk _ _ _ _ (by simp) (by simp) (by simp) (by simp) (by simp [hx.1, hy.1]), .mk _ _ _ _ (by simp) (by simp) (by simp) (by simp [hx.2.1, hy.2.1]), .mk _ _ _ _ (by simp) (by simp [hx.2.2, hy.2.2])⟩
theorem ne_nil : Ne (.mk 3 [] [] []) := ⟨.mk _ _ _ _ (by simp) (by simp) (by simp) (by simp) (by simp), .mk _ _ _ _ (by simp) (by simp) (by simp) (by simp), .mk _ _ _ _ (by simp) (by simp)⟩
theorem rd_nil (w : World) : Rd w (fun _ => False) (.agg #[Kv 3, St [], .slice none 0 0, .slice none 0 0]) (.mk 3 [] [] []) :=
  ⟨_, _, rfl, ⟨_, _, rfl, Nat.le_refl _, by simp [maxLen], .inl rfl⟩, .nil _ _ (by simp [maxLen])⟩
theorem dem_var (nl : Ned) (s : Str) : dem nl (vr s) = DS.on s := rfl
theorem known_lams : X.lams (.mk 9 [] [[102]] [.mk 6 [] [[120]] [vr [120]], vr [102]]) = [([102], .mk 6 [] [[120]] [vr [120]])] := by
  simp [X.lams, lamsL, lamH, X.kind]
theorem known_fix : pas [([102], X.mk 6 [] [[120]] [vr [120]])] (ini [([102], X.mk 6 [] [[120]] [vr [120]])]) = ini [([102], X.mk 6 [] [[120]] [vr [120]])] := by
  simp only [pas, pasTo, stp, ini, bod, X.names, X.parts, List.length_cons, List.length_nil, List.map_cons, List.map_nil, List.getElem?_cons_zero, Option.getD_some, dem_var]
  simp [nxt, DS.on]

set_option maxHeartbeats 8000000 in
set_option maxRecDepth 100000 in
/-- known -/
theorem known8_any (w : World) : Calls Try.prog 16 #[] w fun e w' => e = .returned (.bool true) ∧ Grew w w' := by
  go_enter Try.func16, Try.ntmps16
  go_wp2_with fail
  refine (var_any _ _).mono ?_
  rintro e w1 ⟨rfl, hg1⟩
  have hcall := demands_any (w0 := w1) (nl := []) (vN := .slice none 0 0) ⟨_, _, rfl, Nat.le_refl _, by simp [maxLen], .inl rfl⟩ (rd_var w1 [120]) (ne_var (by simp)).1 (ne_var (by simp)).2.1 (by simp [X.size, sizes]) w1 (Fr.refl _ _)
  go_wp2_with fail
  refine hcall.mono ?_
  rintro e w2 ⟨a2, c2, A2, ks, rfl, hrs, hg2⟩
  have hA : A2 = false := by
    cases A2
    · rfl
    · exact (hrs.all.1 rfl).elim
  subst hA
  have hks : ks = [[120]] := by
    refine sorted_eq ks [[120]] hrs.so (by simp) hrs.nd (by simp) (fun s => ?_)
    rw [hrs.mem rfl s]
    rw [dem_var]; simp [DS.on]
  subst hks
  have HRS := hid hrs
  have HG2 := hid (hg1.trans hg2 (fun _ _ f => f))
  clear hcall hrs hg1 hg2
  have g2a : Grew w2 (w2.alloc (.cells #[St [120]] 9)) := (Fr.refl _ _).alloc _
  have HN2 := hid (nm_one w2 [120] _ rfl)
  have HG2a := hid (HG2.out.trans g2a (fun _ _ f => f))
  have HG22 := hid g2a
  clear g2a
  go_wp2_with fail
  refine (var_any _ _).mono ?_
  rintro e w3 ⟨rfl, hg3⟩
  have HN3 := hid (HN2.out.grew hg3)
  have HG3 := hid (HG2a.out.trans hg3 (fun _ _ f => f))
  have HG23 := hid (HG22.out.trans hg3 (fun _ _ f => f))
  have HX := hid (show Row (w3.alloc (.cells #[Kv 5, St [120], .slice none 0 0, .slice none 0 0] 28)) (fun _ => False) (.slice (some ⟨w3.heap.size, 0, none⟩) 1 1) [vr [120]] from
    row_one (D := fun _ => False) (x := vr [120]) (vn := .slice none 0 0) (va := .slice none 0 0) ⟨_, _, rfl, Nat.le_refl _, by simp [maxLen], .inl rfl⟩ (.nil _ _ (by simp [maxLen])) (fun _ _ f => f) (fun f => f) _ rfl)
  have g3a : Grew w3 (w3.alloc (.cells #[Kv 5, St [120], .slice none 0 0, .slice none 0 0] 28)) := (Fr.refl _ _).alloc _
  have HN3a := hid (HN3.out.grew g3a)
  have HG3a := hid (HG3.out.trans g3a (fun _ _ f => f))
  have HG23a := hid (HG23.out.trans g3a (fun _ _ f => f))
  clear hg3 g3a
  go_wp2_with fail
  refine (var_any _ _).mono ?_
  rintro e w5 ⟨rfl, hg5⟩
  have hlam : Rd w5 (fun _ => False) (.agg #[Kv 6, St [], .slice (some ⟨w2.heap.size, 0, none⟩) 1 1, .slice (some ⟨w3.heap.size, 0, none⟩) 1 1]) (.mk 6 [] [[120]] [vr [120]]) := ⟨_, _, rfl, HN3a.out.grew hg5, HX.out.grew hg5⟩
  have hb := bind_any hlam (rd_var w5 [102]) [102]
  have HG5 := hid (HG3a.out.trans hg5 (fun _ _ f => f))
  have HG25 := hid (HG23a.out.trans hg5 (fun _ _ f => f))
  clear hg5 hlam
  go_wp2_with fail
  refine hb.mono ?_
  obtain ⟨xb, hxb⟩ : ∃ q : X, q = .mk 9 [] [[102]] [.mk 6 [] [[120]] [vr [120]], vr [102]] := ⟨_, rfl⟩
  rw [← hxb]
  have HXB := hid hxb
  rintro e w6 ⟨e6, rfl, ⟨vn, va, rfl, hn6, hr6⟩, hg6⟩
  obtain ⟨an, cn, rfl, -⟩ := hn6.shape
  obtain ⟨aa, ca, rfl, -⟩ := hr6.shape
  have HRD6 := hid (show Rd w6 (fun _ => False) (.agg #[Kv xb.kind, St xb.text, .slice an xb.names.length cn, .slice aa xb.parts.length ca]) xb from ⟨_, _, rfl, hn6, hr6⟩)
  have HG6 := hid (HG5.out.trans hg6 (fun _ _ f => f))
  have HG26 := hid (HG25.out.trans hg6 (fun _ _ f => f))
  clear hb hn6 hr6 hg6 hxb
  obtain ⟨W7, hW7⟩ : ∃ q : World, q = w6.alloc (.cells #[Kv xb.kind, St xb.text, .slice an xb.names.length cn, .slice aa xb.parts.length ca] 28) := ⟨_, rfl⟩
  have g7 : Grew w6 W7 := by rw [hW7]; exact (Fr.refl _ _).alloc _
  have hb7 : W7.heap[w6.heap.size]? = some (.cells #[Kv xb.kind, St xb.text, .slice an xb.names.length cn, .slice aa xb.parts.length ca] 28 (0, 0)) := by rw [hW7]; exact heap_alloc_new w6 _
  obtain ⟨c0, c1⟩ := And.intro (cell_of_get hb7 0) (cell_of_get hb7 1)
  obtain ⟨c2', c3⟩ := And.intro (cell_of_get hb7 2) (cell_of_get hb7 3)
  have hcall := needs_any (HRD6.out.grew g7) (by rw [HXB.out]; exact ne_bind (ne_lam (ne_var (by simp))) (ne_var (by simp))) (by rw [HXB.out]; simp [X.size, sizes])
  have HG7 := hid (HG6.out.trans g7 (fun _ _ f => f))
  have HG27 := hid (HG26.out.trans g7 (fun _ _ f => f))
  clear g7 hb7
  go_upto_region 3 with (fail)
  rw [← hW7]
  clear hW7
  go_wp2_with fail
  refine hcall.mono ?_
  rintro e w8 ⟨a8, m8, c8, L8, nl8, rfl, hns8, hrun8, -, hg8⟩
  rw [HXB.out, known_lams] at hrun8
  have hnl8 := run_ini hrun8 known_fix
  have hnd8 := hns8.nd
  rw [hnl8] at hnd8
  have HND8 := hid (show Nd w8 (fun b => b < W7.heap.size) (.slice a8 m8 c8) [([102], [true])] from hnd8)
  have HG8 := hid (HG7.out.trans hg8 (fun _ _ f => f))
  have HG28 := hid (HG27.out.trans hg8 (fun _ _ f => f))
  clear hcall hns8 hrun8 hnl8 hnd8 hg8 c0 c1 c2' c3
  have hcall := needs_any (rd_nil w8) ne_nil (by simp [X.size, sizes])
  obtain ⟨g2, o2, c3, e2, -, -, -, hel2⟩ := HRS.out.nm.row (by simp)
  obtain ⟨g8, o8, c9, e8, -, -, -, hel8⟩ := HND8.out.at (by simp)
  simp only [Value.slice.injEq] at e2 e8
  obtain ⟨rfl, -, rfl⟩ := e2
  obtain ⟨rfl, rfl, rfl⟩ := e8
  obtain ⟨hs8, aB, cB, hv8, hbo8⟩ := hel8 0 _ rfl
  obtain ⟨gB, hgB⟩ : ∃ gB oB, aB = some ⟨gB, oB, none⟩ ∧ w8.cell? ⟨gB, oB, none⟩ = some (.bool true) := by
    obtain ⟨_, _, e, -, -, h4⟩ := hbo8
    simp only [Value.slice.injEq] at e
    obtain ⟨rfl, -, -⟩ := e
    obtain ⟨gX, oX, rfl, -, hxc⟩ := h4.resolve_left (by simp)
    exact ⟨gX, oX, rfl, hxc 0 true rfl⟩
  obtain ⟨oB, rfl, hcB⟩ := hgB
  have HC8 := hid (And.intro hs8 (And.intro hv8 hcB))
  have HC2 := hid (hel2 0 _ rfl)
  clear hel2 hel8 hs8 hv8 hbo8 hcB
  go_upto_region 4 with (fail)
  go_wp2_with fail
  refine hcall.mono ?_
  rintro e w9 ⟨a9, m9, c9, L9, nl9, rfl, hns9, hrun9, -, hg9⟩
  have hnl9 := run_ini (F := []) (by simpa [X.lams, lamH, lamsL] using hrun9) rfl
  have hm9 : m9 = 0 := by
    obtain ⟨_, _, e, -⟩ := hns9.row.shape
    simp only [Value.slice.injEq] at e
    rw [e.2.1, ← hns9.len, hnl9]; rfl
  subst hm9
  have HG9 := hid (HG8.out.trans hg9 (fun _ _ f => f))
  have k0 : w9.cell? ⟨g8, o8, none⟩ = some (St [102]) := by have h := hg9.cell HC8.out.1 (fun f => f); simpa using h
  have k1 : w9.cell? ⟨g8, o8 + 1, none⟩ = some (.slice (some ⟨gB, oB, none⟩) 1 cB) := by have h := hg9.cell HC8.out.2.1 (fun f => f); simpa using h
  have k2 := hg9.cell HC8.out.2.2 (fun f => f)
  have k3 : w9.cell? ⟨g2, o2, none⟩ = some (St [120]) := by have h := hg9.cell (HG28.out.cell HC2.out (fun f => f)) (fun f => f); simpa using h
  clear hcall hns9 hrun9 hnl9 hg9
  go_wp2
  go_ret
  exact ⟨rfl, HG9.out⟩
end Go.Proofs.Ytddcfnjmppijjaa

/-! Plain law: what is needed is just what each body demands. -/
namespace Go.Proofs.Ytddcfnjmppijjaa
open Go.RowKit

/-- what is no need any more is not demanded -/
def Low (F : List (Str × X)) (nl : Ned) : Prop := ∀ (i : Nat) (f : Str × X) (n : Str × List Bool) (k : Nat) (s : Str), F[i]? = some f → nl[i]? = some n → f.2.names[k]? = some s → n.2[k]? = some false → ¬ ((dem nl (bod f.2)).all ∨ (dem nl (bod f.2)).mem s)
theorem LeN.get {l m : Ned} (h : LeN l m) {i : Nat} {n : Str × List Bool} (hn : l[i]? = some n) : ∃ n', m[i]? = some n' ∧ n.1 = n'.1 ∧ LeB n.2 n'.2 := by
  induction h generalizing i with
  | nil => simp at hn
  | cons s b c l m h _ ih =>
    cases i with
    | zero => simp at hn; subst hn; exact ⟨_, rfl, rfl, h⟩
    | succ i => exact ih (by simpa using hn)
theorem Low.stp {F : List (Str × X)} {nl : Ned} (h : Low F nl) (i : Nat) : Low F (stp F nl i) := by
  intro j f n' k s hf hn' hs hb
  have hle := stp_le F nl i
  obtain ⟨n, hn, -, hbb⟩ := hle.get hn'
  intro hc
  have hd := (dem_le hle (bod f.2)).has hc
  obtain ⟨b, hb2⟩ := at_of_lt (l := n.2) (i := k) (by rw [← hbb.len]; exact (List.getElem?_eq_some_iff.1 hb).1)
  cases b
  · exact h j f n k s hf hn hs hb2 hd
  · by_cases hij : i = j
    · subst hij
      rw [stp_at hf hn, List.getElem?_set_self (List.getElem?_eq_some_iff.1 hn).1] at hn'
      cases hn'
      rw [nxt_at _ hs hb2, Bool.true_and] at hb
      simp only [Option.some.injEq, decide_eq_false_iff_not] at hb
      exact hb hd
    · have : (Ytddcfnjmppijjaa.stp F nl i)[j]? = nl[j]? := by
        unfold Ytddcfnjmppijjaa.stp
        split
        · rw [List.getElem?_set_ne hij]
        · rfl
      rw [this, hn] at hn'
      cases hn'
      rw [hb2] at hb; cases hb
theorem Low.pasTo {F : List (Str × X)} {nl : Ned} (h : Low F nl) : ∀ j, Low F (pasTo F nl j)
  | 0 => h
  | j + 1 => (Low.pasTo h j).stp j
theorem Low.run {F : List (Str × X)} {nl : Ned} (h : Run F nl) : Low F nl := by
  induction h with
  | zero =>
    intro i f n k s hf hn _ hb
    unfold ini at hn
    rw [List.getElem?_map, hf] at hn
    simp at hn
    subst hn
    simp only [List.getElem?_replicate] at hb
    split at hb <;> cases hb
  | succ nl _ ih => exact ih.pasTo _
theorem fix_both {F : List (Str × X)} {nl : Ned} (h : Run F nl) (hx : pas F nl = nl) {i : Nat} {f : Str × X} {n : Str × List Bool} {k : Nat} {s : Str} {b : Bool} (hf : F[i]? = some f) (hn : nl[i]? = some n) (hs : f.2.names[k]? = some s) (hb : n.2[k]? = some b) :
    b = true ↔ ((dem nl (bod f.2)).all ∨ (dem nl (bod f.2)).mem s) := by
  have h1 := stp_fix hx (List.getElem?_eq_some_iff.1 hf).1
  rw [stp_at hf hn] at h1
  have h2 := List.getElem?_set_self (a := (n.1, nxt (dem nl (bod f.2)) f.2.names n.2)) (List.getElem?_eq_some_iff.1 hn).1
  rw [h1, hn] at h2
  have h3 : n.2 = nxt (dem nl (bod f.2)) f.2.names n.2 := by
    have := congrArg (fun o => o.map (·.2)) h2
    simpa using this
  have h4 := nxt_at (dem nl (bod f.2)) hs hb
  rw [← h3, hb] at h4
  constructor
  · intro e
    subst e
    simp at h4
    exact h4
  · intro e
    cases b
    · exact absurd e (Low.run h i f n k s hf hn hs hb)
    · rfl
end Go.Proofs.Ytddcfnjmppijjaa
