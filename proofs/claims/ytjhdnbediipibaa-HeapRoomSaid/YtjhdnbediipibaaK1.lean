import Derived.Shelf.SlIterI.Nil
import Derived.Shelf.SortM.Plain
import Derived.Shelf.SortM.SortNone
import Derived.Ground.GgzProg
import Derived.Ground.SlgmProg
import Derived.Test.YtjhdnbediipibaaE8
/-! Objects: the addresses, in order. -/
namespace Go.Proofs.Ytjhdnbediipibaa
open Go.RowKit Go.Maps Go.Sort Go.Shelf

def Try.keysA_ren : Go.Shelf.Ren := ⟨fun | 7 => 54 | 10 => 67 | n => n, fun | 23 => 33 | 26 => 3 | 3 => 64 | 28 => 80 | 0 => 0 | 27 => 79 | 33 => 94 | 4 => 4 | n => n, fun | n => n⟩
theorem Try.keysA : Go.Proofs.SlLaysZI.n7 Try.prog Try.keysA_ren := {
  mixed := by kernel_rfl
  f7 := ⟨Try.f54.name, by decide, Try.func54.trans (congrArg some (by kernel_rfl))⟩
  f10 := ⟨Try.f67.name, by decide, Try.func67.trans (congrArg some (by kernel_rfl))⟩
  t0 := Try.underlying0
  a0 := Try.isAgg0
  z0 := Try.sizeOf0
  v0 := Try.zeroValue0
  t4 := Try.underlying4
  a4 := Try.isAgg4
  z4 := Try.sizeOf4
  v4 := Try.zeroValue4
  t23 := Try.underlying33
  a23 := Try.isAgg33
  z23 := Try.sizeOf33
  v23 := Try.zeroValue33
  t26 := Try.underlying3
  a26 := Try.isAgg3
  z26 := Try.sizeOf3
  v26 := Try.zeroValue3
  t27 := Try.underlying79
  a27 := Try.isAgg79
  z27 := Try.sizeOf79
  v27 := Try.zeroValue79
  t28 := Try.underlying80
  a28 := Try.isAgg80
  z28 := Try.sizeOf80
  v28 := Try.zeroValue80
  t33 := Try.underlying94
  a33 := Try.isAgg94
  z33 := Try.sizeOf94
  v33 := Try.zeroValue94 }
def Try.sortedA_ren : Go.Shelf.Ren := ⟨fun | 6 => 53 | 8 => 65 | 9 => 66 | 11 => 73 | 13 => 75 | 12 => 74 | 23 => 85 | 24 => 86 | 14 => 76 | 15 => 77 | 16 => 78 | 17 => 79 | 18 => 80 | 19 => 81 | 20 => 82 | 21 => 83 | 22 => 84 | 25 => 87 | 26 => 88 | 27 => 89 | 28 => 90 | 29 => 91 | 30 => 92 | 31 => 93 | n => n, fun | 26 => 3 | 28 => 80 | 24 => 22 | 0 => 0 | 3 => 3 | 37 => 100 | 48 => 108 | 50 => 110 | 4 => 4 | 40 => 103 | 39 => 102 | 45 => 27 | 5 => 5 | 9 => 9 | 51 => 111 | 55 => 115 | 57 => 117 | 58 => 118 | 33 => 94 | n => n, fun | n => n⟩
theorem Try.sortedA : Go.Proofs.SlLaysZI.n6 Try.prog Try.sortedA_ren := {
  mixed := by kernel_rfl
  f6 := ⟨Try.f53.name, by decide, Try.func53.trans (congrArg some (by kernel_rfl))⟩
  f8 := ⟨Try.f65.name, by decide, Try.func65.trans (congrArg some (by kernel_rfl))⟩
  f11 := ⟨Try.f73.name, by decide, Try.func73.trans (congrArg some (by kernel_rfl))⟩
  t0 := Try.underlying0
  a0 := Try.isAgg0
  z0 := Try.sizeOf0
  v0 := Try.zeroValue0
  t24 := Try.underlying22
  a24 := Try.isAgg22
  z24 := Try.sizeOf22
  v24 := Try.zeroValue22
  t26 := Try.underlying3
  a26 := Try.isAgg3
  z26 := Try.sizeOf3
  v26 := Try.zeroValue3
  t28 := Try.underlying80
  a28 := Try.isAgg80
  z28 := Try.sizeOf80
  v28 := Try.zeroValue80
  i26 := by kernel_rfl }
def Try.sortA_ren : Go.Shelf.Ren := ⟨fun | 5 => 66 | 8 => 75 | 7 => 74 | 19 => 85 | 20 => 86 | 10 => 76 | 11 => 77 | 12 => 78 | 13 => 79 | 14 => 80 | 15 => 81 | 16 => 82 | 17 => 83 | 18 => 84 | 30 => 87 | 31 => 88 | 32 => 89 | 33 => 90 | 34 => 91 | 35 => 92 | 40 => 93 | n => n, fun | 23 => 22 | 25 => 3 | 3 => 3 | 32 => 100 | 22 => 22 | 0 => 0 | 44 => 108 | 46 => 110 | 4 => 4 | 36 => 103 | 35 => 102 | 41 => 27 | 5 => 5 | 9 => 9 | 53 => 111 | 57 => 115 | 63 => 117 | 64 => 118 | n => n, fun | n => n⟩
theorem Try.sortA : Go.Proofs.SlLaysM.n5 Try.prog Try.sortA_ren := {
  mixed := by kernel_rfl
  f5 := ⟨Try.f66.name, by decide, Try.func66.trans (congrArg some (by kernel_rfl))⟩
  f7 := ⟨Try.f74.name, by decide, Try.func74.trans (congrArg some (by kernel_rfl))⟩
  f8 := Try.func75.trans (congrArg some (by kernel_rfl))
  f10 := ⟨Try.f76.name, by decide, Try.func76.trans (congrArg some (by kernel_rfl))⟩
  f11 := ⟨Try.f77.name, by decide, Try.func77.trans (congrArg some (by kernel_rfl))⟩
  f12 := ⟨Try.f78.name, by decide, Try.func78.trans (congrArg some (by kernel_rfl))⟩
  f13 := ⟨Try.f79.name, by decide, Try.func79.trans (congrArg some (by kernel_rfl))⟩
  f14 := ⟨Try.f80.name, by decide, Try.func80.trans (congrArg some (by kernel_rfl))⟩
  f15 := ⟨Try.f81.name, by decide, Try.func81.trans (congrArg some (by kernel_rfl))⟩
  f16 := ⟨Try.f82.name, by decide, Try.func82.trans (congrArg some (by kernel_rfl))⟩
  f17 := ⟨Try.f83.name, by decide, Try.func83.trans (congrArg some (by kernel_rfl))⟩
  f18 := ⟨Try.f84.name, by decide, Try.func84.trans (congrArg some (by kernel_rfl))⟩
  f19 := Try.func85.trans (congrArg some (by kernel_rfl))
  f20 := Try.func86.trans (congrArg some (by kernel_rfl))
  f30 := ⟨Try.f87.name, by decide, Try.func87.trans (congrArg some (by kernel_rfl))⟩
  f31 := Try.func88.trans (congrArg some (by kernel_rfl))
  f32 := Try.func89.trans (congrArg some (by kernel_rfl))
  f33 := ⟨Try.f90.name, by decide, Try.func90.trans (congrArg some (by kernel_rfl))⟩
  f34 := ⟨Try.f91.name, by decide, Try.func91.trans (congrArg some (by kernel_rfl))⟩
  f35 := ⟨Try.f92.name, by decide, Try.func92.trans (congrArg some (by kernel_rfl))⟩
  f40 := ⟨Try.f93.name, by decide, Try.func93.trans (congrArg some (by kernel_rfl))⟩
  t0 := Try.underlying0
  a0 := Try.isAgg0
  z0 := Try.sizeOf0
  v0 := Try.zeroValue0
  t3 := Try.underlying3
  a3 := Try.isAgg3
  z3 := Try.sizeOf3
  v3 := Try.zeroValue3
  t4 := Try.underlying4
  a4 := Try.isAgg4
  z4 := Try.sizeOf4
  v4 := Try.zeroValue4
  t5 := Try.underlying5
  a5 := Try.isAgg5
  z5 := Try.sizeOf5
  v5 := Try.zeroValue5
  t9 := Try.underlying9
  a9 := Try.isAgg9
  z9 := Try.sizeOf9
  v9 := Try.zeroValue9
  t22 := Try.underlying22
  a22 := Try.isAgg22
  z22 := Try.sizeOf22
  v22 := Try.zeroValue22
  t23 := Try.underlying22
  a23 := Try.isAgg22
  z23 := Try.sizeOf22
  v23 := Try.zeroValue22
  t25 := Try.underlying3
  a25 := Try.isAgg3
  z25 := Try.sizeOf3
  v25 := Try.zeroValue3
  t32 := Try.underlying100
  a32 := Try.isAgg100
  z32 := Try.sizeOf100
  v32 := Try.zeroValue100
  t35 := Try.underlying102
  a35 := Try.isAgg102
  z35 := Try.sizeOf102
  v35 := Try.zeroValue102
  t36 := Try.underlying103
  a36 := Try.isAgg103
  z36 := Try.sizeOf103
  v36 := Try.zeroValue103
  t41 := Try.underlying27
  a41 := Try.isAgg27
  z41 := Try.sizeOf27
  v41 := Try.zeroValue27
  t44 := Try.underlying108
  a44 := Try.isAgg108
  z44 := Try.sizeOf108
  v44 := Try.zeroValue108
  t46 := Try.underlying110
  a46 := Try.isAgg110
  z46 := Try.sizeOf110
  v46 := Try.zeroValue110
  t53 := Try.underlying111
  a53 := Try.isAgg111
  z53 := Try.sizeOf111
  v53 := Try.zeroValue111
  t57 := Try.underlying115
  a57 := Try.isAgg115
  z57 := Try.sizeOf115
  v57 := Try.zeroValue115
  t63 := Try.underlying117
  a63 := Try.isAgg117
  z63 := Try.sizeOf117
  v63 := Try.zeroValue117
  t64 := Try.underlying118
  a64 := Try.isAgg118
  z64 := Try.sizeOf118
  v64 := Try.zeroValue118 }


theorem Try.sortsA (m : Nat) : AnyZI.SortsIn Try.prog Try.sortedA_ren Fence.wide m :=
  ⟨fun blk off cap ss W hH hblk hsz => callsIn_wide.2 (AnyM.slices_Sort_int Try.sortA blk off cap ss W hH hblk hsz),
   fun p cap W => callsIn_wide.2 (AnyM.slices_Sort_int_none Try.sortA p cap W)⟩

/-- the objects' pointers read as nothing -/
def rdAny (_ : Value) : Option (DataW Unit × List MemPlace) := some (.lit (.bool true), [])
def keyI : Value → Int
  | .int _ a => a
  | _ => 0

theorem rd_any {x : MapEntry} {a : Int} (hk : x.key = Kv a) (hw : (Lit.int .i64 a).wf = true) : WideElems.rd Try.prog 3 rdAny x = some (.int .i64 a, .lit (.bool true)) := by
  unfold WideElems.rd
  rw [hk, keyOf_int_mk Try.u3 hw]
  rfl

theorem keys_map {w : World} {hb : Nat} {A : AH} {fp : List Nat} (h : PH w hb A fp) (hW : A.WF) :
    ∃ mb, w.cell? ⟨hb, 0, none⟩ = some (.map (some mb)) ∧ ∃ nn D0, w.ownsMap Try.prog 3 rdAny mb nn D0 ∧ (Go.intKeys D0).Perm A.keys ∧ Maps.size D0 = A.objs.length := by
  obtain ⟨mb, es, clock, xs, h1, h2, h3, h4, h5, rfl, h7⟩ := h
  have hkeys : es.toList.map (·.key) = A.keys.map Kv := by
    have := congrArg (List.map (·.1)) h3.1
    rw [List.map_map, List.map_map] at this
    rw [AH.keys, h4]
    simpa [Function.comp_def, PO.pair, PO.ent] using this
  have hlen : es.size = A.objs.length := by
    have := congrArg List.length hkeys
    simpa [AH.keys] using this
  have hwf : ∀ x ∈ es.toList, ∃ a, x.key = Kv a ∧ (Lit.int .i64 a).wf = true := by
    intro x hx
    have hm : x.key ∈ A.keys.map Kv := by rw [← hkeys]; exact List.mem_map.2 ⟨x, hx, rfl⟩
    obtain ⟨a, ha, e⟩ := List.mem_map.1 hm
    obtain ⟨p, hp, rfl⟩ := List.mem_map.1 ha
    have h0 := hW.range p hp
    have h8 := hW.uw
    have h9 := hW.w0
    exact ⟨p.1, e.symm, WalkArith.wf_i64 (by omega)⟩
  have hnd : (es.toList.map (·.key)).Nodup := by
    rw [hkeys, List.nodup_iff_pairwise_ne, List.pairwise_map]
    exact hW.nodup.imp (fun hab e => hab (by simpa using e))
  have hFit : WideElems.Fit Try.prog 3 rdAny es clock := ⟨by rw [hlen]; have := hW.len; unfold maxLen; omega, ⟨h3.2.1, h3.2.2, hnd⟩, fun x hx => by
    obtain ⟨a, ha, hw⟩ := hwf x hx
    exact ⟨_, rd_any ha hw⟩⟩
  refine ⟨mb, by rw [cell_of_get h1]; rfl, es.size, _, ⟨es, clock, h2, hFit, Nat.le_refl _, rfl⟩, ?_, ?_⟩
  · show (((es.toList.map (WideElems.rg Try.prog 3 rdAny)).foldr DataW.insert []).map fun p => Go.intOf p.1).Perm A.keys
    refine ((Go.WideShapes.sorted_perm _).map _).trans ?_
    have e1 : (es.toList.map (WideElems.rg Try.prog 3 rdAny)).map (fun p => Go.intOf p.1) = (es.toList.map (·.key)).map keyI := by
      rw [List.map_map, List.map_map]
      refine List.map_congr_left (fun x hx => ?_)
      obtain ⟨a, ha, hw⟩ := hwf x hx
      simp only [Function.comp, WideElems.rg, rd_any ha hw, ha]
      rfl
    rw [e1, hkeys, List.map_map]
    have e2 : (keyI ∘ Kv) = id := rfl
    rw [e2, List.map_id]
  · show ((es.toList.map (WideElems.rg Try.prog 3 rdAny)).foldr DataW.insert []).length = _
    rw [(Go.WideShapes.sorted_perm _).length_eq, List.length_map]
    simpa using hlen

set_option maxHeartbeats 1000000 in
theorem objects_any {w : World} {hb : Nat} {A : AH} {fp : List Nat} (h : PH w hb A fp) (hW : A.WF) :
    Calls Try.prog 37 #[.pointer (some ⟨hb, 0, none⟩)] w (NewRow w A.keys) := by
  obtain ⟨mb, hc, nn, D0, hown, hperm, hsz⟩ := keys_map h hW
  have hl := hW.len
  have hkl : A.keys.length = A.objs.length := by simp [AH.keys]
  have hsorted : ∀ ss : List Int, ss.Perm (Go.intKeys D0) → ss.mergeSort leI = A.keys := by
    intro ss hs
    rw [mergeSort_of_perm_i (hs.trans hperm)]
    refine List.mergeSort_of_pairwise (hW.keys.imp (fun {a b} hab => ?_))
    simp only [leI, decide_eq_true_eq]
    omega
  have hseq : SeqGives Fence.wide 2 Try.prog 67 #[.pointer (some ⟨w.heap.size, 0, none⟩)] encZ (fun ss => ss.Perm (Go.intKeys D0)) (Maps.size D0) (w.alloc (.cells #[.map (some mb)] 33)) :=
    AnyZI.keys_gives (ρ := Try.keysA_ren) { Try.keysA with } Fence.wide _ trivial rfl (by omega) w.heap.size mb nn D0 _ (by simp) (by simp) (by
      have hbl := hown.lt
      obtain ⟨es, clock, hb, Ft, hs, hD⟩ := hown
      exact ⟨es, clock, (Below.heap_alloc _ _ mb hbl).trans hb, Ft, hs, hD⟩)
  have cK : Calls Try.prog 54 #[.map (some mb)] w fun e w' => e = .returned (.func (.func 67) #[] #[.pointer (some ⟨w.heap.size, 0, none⟩)]) ∧ w' = w.alloc (.cells #[.map (some mb)] 33) :=
    callsIn_wide.1 (AnyZI.keys_in Try.keysA Fence.wide 5 trivial rfl (some mb) w)
  have cS := AnyZI.sorted_in Try.sortedA Fence.wide 5 trivial trivial trivial trivial rfl (by omega) (Try.sortsA _) (enters_of Try.func66 (by kernel_rfl) rfl) 67 #[.pointer (some ⟨w.heap.size, 0, none⟩)] trivial (enters_of Try.func67 (by kernel_rfl) rfl) _ _ (by rw [hsz]; unfold maxLen; omega) (by rw [hsz]; omega) _ hseq
  change CallsIn _ _ Try.prog 53 _ _ _ at cS
  have cS' := callsIn_wide.1 cS
  have HS := hid hsorted
  clear h hW hown hperm hseq cS hsorted
  go_enter Try.func37, Try.ntmps37
  go_wp2_with fail
  refine cK.mono ?_
  rintro e w' ⟨rfl, rfl⟩
  go_wp2_with fail
  refine cS'.mono ?_
  rintro e w2 ⟨v, ss, rfl, hS, hrow, hnil, hbel⟩
  have hso := HS.out ss hS
  have hlen : ss.length = A.keys.length := by rw [← hso]; simp
  rw [hso, hlen] at hrow
  have hOw : Ow w2 v A.keys := ownsRow_base_a hrow (Nat.zero_le _)
  have hg : Grew w w2 := (Grew.alloc w _).trans ⟨hbel.os, hbel.tape, hbel.output, hbel.size, fun k hk _ => hbel.block k hk⟩ (fun _ _ f => f)
  have HO := hid (And.intro hOw hg)
  have hcl := clone_any hOw (by omega)
  clear hrow hnil hbel hOw hg hso cS' cK
  go_wp2_with fail
  refine hcl.mono ?_
  rintro e w3 ⟨v', rfl, h1, h2, h3⟩
  have H := hid (show NewRow w A.keys (.returned v') w3 from ⟨v', rfl, h1, HO.out.2.trans h2 (fun _ _ f => f), fun g hg => Nat.le_trans HO.out.2.size (h3 g hg)⟩)
  clear h1 h2 h3 hcl
  go_wp2
  go_ret
  exact H.out
end Go.Proofs.Ytjhdnbediipibaa
