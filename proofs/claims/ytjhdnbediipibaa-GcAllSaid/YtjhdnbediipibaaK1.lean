import Derived.Shelf.SlIterI.Nil
import Derived.Shelf.SortM.Plain
import Derived.Shelf.SortM.SortNone
import Derived.Ground.GgzProg
import Derived.Ground.SlgmProg
import Derived.Test.YtjhdnbediipibaaE8
/-! Objects: the addresses, in order. -/
namespace Go.Proofs.Ytjhdnbediipibaa
open Go.RowKit Go.Maps Go.Sort Go.Shelf

shelf_lay_g SlLaysZI.n7 Ggz 7 at Try 54 as Try.keysA
shelf_lay_g SlLaysZI.n6 Ggz 6 at Try 53 as Try.sortedA
shelf_lay_g SlLaysM.n5 Slgm 5 at Try 66 as Try.sortA

theorem Try.sortsA (m : Nat) : AnyZI.SortsIn Try.prog Try.sortedA_ren Fence.wide m :=
  ⟨fun blk off cap ss W hH hblk hsz => callsIn_wide.2 (AnyM.slices_Sort_int Try.sortA blk off cap ss W hH hblk hsz),
   fun p cap W => callsIn_wide.2 (AnyM.slices_Sort_int_none Try.sortA p cap W)⟩

/-- the objects' pointers read as nothing -/
def rdAny (_ : Value) : Option (DataW Unit × List MemPlace) := some (.lit (.bool true), [])
def keyI : Value → Int
  | .int _ a => a
  | _ => 0

theorem rd_any {x : MapEntry} {a : Int} (hk : x.key = Kv a) (hw : (Lit.int .i64 a).wf = true) : WideElems.rd Try.prog 3 rdAny x = some (.int .i64 a, .lit (.bool true)) := by
  unfold WideElems.rd
  rw [hk, keyOf_int_mk Try.u3 hw]
  rfl

theorem keys_map {w : World} {hb : Nat} {A : AH} {fp : List Nat} (h : PH w hb A fp) (hW : A.WF) :
    ∃ mb, w.cell? ⟨hb, 0, none⟩ = some (.map (some mb)) ∧ ∃ nn D0, w.ownsMap Try.prog 3 rdAny mb nn D0 ∧ (Go.intKeys D0).Perm A.keys ∧ Maps.size D0 = A.objs.length := by
  obtain ⟨mb, es, clock, xs, h1, h2, h3, h4, h5, rfl, h7⟩ := h
  have hkeys : es.toList.map (·.key) = A.keys.map Kv := by
    have := congrArg (List.map (·.1)) h3.1
    rw [List.map_map, List.map_map] at this
    rw [AH.keys, h4]
    simpa [Function.comp_def, PO.pair, PO.ent] using this
  have hlen : es.size = A.objs.length := by
    have := congrArg List.length hkeys
    simpa [AH.keys] using this
  have hwf : ∀ x ∈ es.toList, ∃ a, x.key = Kv a ∧ (Lit.int .i64 a).wf = true := by
    intro x hx
    have hm : x.key ∈ A.keys.map Kv := by rw [← hkeys]; exact List.mem_map.2 ⟨x, hx, rfl⟩
    obtain ⟨a, ha, e⟩ := List.mem_map.1 hm
    obtain ⟨p, hp, rfl⟩ := List.mem_map.1 ha
    have h0 := hW.range p hp
    have h8 := hW.uw
    have h9 := hW.w0
    exact ⟨p.1, e.symm, WalkArith.wf_i64 (by omega)⟩
  have hnd : (es.toList.map (·.key)).Nodup := by
    rw [hkeys, List.nodup_iff_pairwise_ne, List.pairwise_map]
    exact hW.nodup.imp (fun hab e => hab (by simpa using e))
  have hFit : WideElems.Fit Try.prog 3 rdAny es clock := ⟨by rw [hlen]; have := hW.len; unfold maxLen; omega, ⟨h3.2.1, h3.2.2, hnd⟩, fun x hx => by
    obtain ⟨a, ha, hw⟩ := hwf x hx
    exact ⟨_, rd_any ha hw⟩⟩
  refine ⟨mb, by rw [cell_of_get h1]; rfl, es.size, _, ⟨es, clock, h2, hFit, Nat.le_refl _, rfl⟩, ?_, ?_⟩
  · show (((es.toList.map (WideElems.rg Try.prog 3 rdAny)).foldr DataW.insert []).map fun p => Go.intOf p.1).Perm A.keys
    refine ((Go.WideShapes.sorted_perm _).map _).trans ?_
    have e1 : (es.toList.map (WideElems.rg Try.prog 3 rdAny)).map (fun p => Go.intOf p.1) = (es.toList.map (·.key)).map keyI := by
      rw [List.map_map, List.map_map]
      refine List.map_congr_left (fun x hx => ?_)
      obtain ⟨a, ha, hw⟩ := hwf x hx
      simp only [Function.comp, WideElems.rg, rd_any ha hw, ha]
      rfl
    rw [e1, hkeys, List.map_map]
    have e2 : (keyI ∘ Kv) = id := rfl
    rw [e2, List.map_id]
  · show ((es.toList.map (WideElems.rg Try.prog 3 rdAny)).foldr DataW.insert []).length = _
    rw [(Go.WideShapes.sorted_perm _).length_eq, List.length_map]
    simpa using hlen

set_option maxHeartbeats 1000000 in
theorem objects_any {w : World} {hb : Nat} {A : AH} {fp : List Nat} (h : PH w hb A fp) (hW : A.WF) :
    Calls Try.prog 37 #[.pointer (some ⟨hb, 0, none⟩)] w (NewRow w A.keys) := by
  obtain ⟨mb, hc, nn, D0, hown, hperm, hsz⟩ := keys_map h hW
  have hl := hW.len
  have hkl : A.keys.length = A.objs.length := by simp [AH.keys]
  have hsorted : ∀ ss : List Int, ss.Perm (Go.intKeys D0) → ss.mergeSort leI = A.keys := by
    intro ss hs
    rw [mergeSort_of_perm_i (hs.trans hperm)]
    refine List.mergeSort_of_pairwise (hW.keys.imp (fun {a b} hab => ?_))
    simp only [leI, decide_eq_true_eq]
    omega
  have hseq : SeqGives Fence.wide 2 Try.prog 67 #[.pointer (some ⟨w.heap.size, 0, none⟩)] encZ (fun ss => ss.Perm (Go.intKeys D0)) (Maps.size D0) (w.alloc (.cells #[.map (some mb)] 33)) :=
    AnyZI.keys_gives (ρ := Try.keysA_ren) { Try.keysA with } Fence.wide _ trivial rfl (by omega) w.heap.size mb nn D0 _ (by simp) (by simp) (by
      have hbl := hown.lt
      obtain ⟨es, clock, hb, Ft, hs, hD⟩ := hown
      exact ⟨es, clock, (Below.heap_alloc _ _ mb hbl).trans hb, Ft, hs, hD⟩)
  have cK : Calls Try.prog 54 #[.map (some mb)] w fun e w' => e = .returned (.func (.func 67) #[] #[.pointer (some ⟨w.heap.size, 0, none⟩)]) ∧ w' = w.alloc (.cells #[.map (some mb)] 33) :=
    callsIn_wide.1 (AnyZI.keys_in Try.keysA Fence.wide 5 trivial rfl (some mb) w)
  have cS := AnyZI.sorted_in Try.sortedA Fence.wide 5 trivial trivial trivial trivial rfl (by omega) (Try.sortsA _) (enters_of Try.func66 (by kernel_rfl) rfl) 67 #[.pointer (some ⟨w.heap.size, 0, none⟩)] trivial (enters_of Try.func67 (by kernel_rfl) rfl) _ _ (by rw [hsz]; unfold maxLen; omega) (by rw [hsz]; omega) _ hseq
  change CallsIn _ _ Try.prog 53 _ _ _ at cS
  have cS' := callsIn_wide.1 cS
  have HS := hid hsorted
  clear h hW hown hperm hseq cS hsorted
  go_enter Try.func37, Try.ntmps37
  go_wp2_with fail
  refine cK.mono ?_
  rintro e w' ⟨rfl, rfl⟩
  go_wp2_with fail
  refine cS'.mono ?_
  rintro e w2 ⟨v, ss, rfl, hS, hrow, hnil, hbel⟩
  have hso := HS.out ss hS
  have hlen : ss.length = A.keys.length := by rw [← hso]; simp
  rw [hso, hlen] at hrow
  have hOw : Ow w2 v A.keys := ownsRow_base_a hrow (Nat.zero_le _)
  have hg : Grew w w2 := (Grew.alloc w _).trans ⟨hbel.os, hbel.tape, hbel.output, hbel.size, fun k hk _ => hbel.block k hk⟩ (fun _ _ f => f)
  have HO := hid (And.intro hOw hg)
  have hcl := clone_any hOw (by omega)
  clear hrow hnil hbel hOw hg hso cS' cK
  go_wp2_with fail
  refine hcl.mono ?_
  rintro e w3 ⟨v', rfl, h1, h2, h3⟩
  have H := hid (show NewRow w A.keys (.returned v') w3 from ⟨v', rfl, h1, HO.out.2.trans h2 (fun _ _ f => f), fun g hg => Nat.le_trans HO.out.2.size (h3 g hg)⟩)
  clear h1 h2 h3 hcl
  go_wp2
  go_ret
  exact H.out
end Go.Proofs.Ytjhdnbediipibaa
