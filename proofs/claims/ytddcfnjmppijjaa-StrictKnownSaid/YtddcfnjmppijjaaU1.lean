import Derived.Test.YtddcfnjmppijjaaP4
import Derived.Shelf.SlMaps.Clone
import Derived.Test.YtddcfnjmppijjaaR3
import Derived.Deep.OwnRows
import Derived.Test.YtddcfnjmppijjaaM4
/-! strict's sets: maps cloned, copied; none, one. -/
namespace Go.Proofs.Ytddcfnjmppijjaa
open Go.RowKit Go.MapKept Go.ChangeMaps

theorem map20 : Try.prog.underlying 79 = some (.map 9 4) := und79
set_option maxHeartbeats 2000000 in
set_option maxRecDepth 100000 in
/-- maps.Clone -/
theorem clone_map {w : World} {b clock : Nat} {es : Array MapEntry} (hb : w.heap[b]? = some (.map es clock)) : Calls Try.prog 92 #[.map (some b)] w fun e w' => e = .returned (.map (some w.heap.size)) ∧ w' = w.alloc (.map es clock) := by
  have hq := fun w => run_eql_map_nil_sl (P := Try.prog) w 79 _ _ (some b) und79
  go_enter Try.func92, Try.ntmps92
  go_wp2
  rw [run_callFunc_extern Try.func113 (by kernel_rfl) (by kernel_rfl) (by kernel_rfl) (e := Extern.MapsClone.clone) (by kernel_rfl), run_maps_clone_sl w 79 hb]
  simp only [Result.andThen]
  rw [Oper.upon_value]
  go_wp2
  rw [run_typeAssert_map_sl _ 79 20 _ _ _ und79]
  simp only [Result.andThen]
  rw [Oper.upon_value]
  go_wp2
  go_ret
  exact ⟨rfl, rfl⟩
theorem clone_set {w : World} {b : Nat} {S : Str → Prop} (h : MpS w b S) : Calls Try.prog 92 #[.map (some b)] w fun e w' => e = .returned (.map (some w.heap.size)) ∧ MpS w' w.heap.size S ∧ w'.heap.size = w.heap.size + 1 ∧ Grew w w' := by
  obtain ⟨g, ⟨es, clock, h1, h2⟩, h3⟩ := h
  refine (clone_map h1).mono ?_
  rintro e w' ⟨rfl, rfl⟩
  exact ⟨rfl, ⟨g, ⟨es, clock, heap_alloc_new w _, h2⟩, h3⟩, by simp, (Fr.refl _ _).alloc _⟩

/-- what was handed out of the map at ob; the map at d has it -/
structure CS (W6 : World) (r ob d clock : Nat) (es : Array MapEntry) (S0 : Str → Prop) (seen : Array Nat) (wr : World) : Prop where
  keep : Fr (fun c => c = r ∨ c = d) W6 wr
  it : ∃ c0, wr.heap[r]? = some (.mapIter (some ob) clock seen c0) ∧ clock ≤ c0
  mp : wr.heap[ob]? = some (.map es clock)
  set : MpS wr d (fun t => S0 t ∨ ∃ e ∈ es.toList, e.key = St t ∧ seen.contains e.born = true)

theorem CS.step {W6 : World} {r ob d clock : Nat} {es : Array MapEntry} {S0 : Str → Prop} {seen : Array Nat} {wr w1 : World} (h : CS W6 r ob d clock es S0 seen wr) (hst : Stamped es clock) (hkey : ∀ x ∈ es.toList, ∃ s, x.key = St s ∧ x.val = .bool true)
    (hr : r < W6.heap.size) (hne : ob ≠ r) (hnd : ob ≠ d) (hrd : r ≠ d) {e : MapEntry} (he : e ∈ (leftOf es seen).toList) (hw1 : w1 = wr ∨ w1 = wr.drew) :
    ∃ s w6, e.key = St s ∧ e.val = .bool true ∧ (Instr.entry (.pointer (some ⟨r, 0, none⟩))).run Try.prog (setBlock w1 r (.mapIter (some ob) clock (seen.push e.born) clock)) = .ok (.tuple #[St s, .bool true]) (setBlock w1 r (.mapIter (some ob) clock (seen.push e.born) clock)) ∧
      (Instr.mapUpdate 79 (.map (some d)) (.string ⟨s.toArray⟩) (.bool true)).run Try.prog (setBlock w1 r (.mapIter (some ob) clock (seen.push e.born) clock)) = .ok () w6 ∧
      CS W6 r ob d clock es S0 (seen.push e.born) w6 ∧ w6.iterSeen r = seen.push e.born := by
  obtain ⟨keep, ⟨c0, it, hc0⟩, mp, set⟩ := h
  obtain ⟨hmem, hns⟩ := mem_left he
  obtain ⟨s, hs, hv⟩ := hkey e hmem
  have hg1 : Grew wr w1 := by
    rcases hw1 with rfl | rfl
    · exact Fr.refl _ _
    · exact (Fr.refl _ _).drew
  have hsz := keep.size
  have hs1 := hg1.size
  have hsb := setBlock_fr w1 r (.mapIter (some ob) clock (seen.push e.born) clock)
  have hsg := setBlock_get (w := w1) (b := r) (by omega) (.mapIter (some ob) clock (seen.push e.born) clock)
  have hmp := hsb.get (hg1.get mp (fun f => f)) hne
  have hen := run_entry_at (P := Try.prog) (setBlock w1 r (.mapIter (some ob) clock (seen.push e.born) clock)) r ob clock seen es clock e hsg hmp hmem ((stamped_iff es clock).1 hst).2.1
  rw [hs, hv] at hen
  have hF : Fr (fun c => c = r) wr (setBlock w1 r (.mapIter (some ob) clock (seen.push e.born) clock)) := (Grew.any hg1).trans hsb (fun _ _ e => e)
  generalize setBlock w1 r (.mapIter (some ob) clock (seen.push e.born) clock) = w2 at *
  obtain ⟨w6, hrun, hset, hf⟩ := (set.kept hF (fun e => hrd e.symm)).put s
  refine ⟨s, w6, hs, hv, hen, hrun, ⟨(keep.trans hF (fun _ _ e => .inl e)).trans hf (fun _ _ e => .inr e), ⟨clock, hf.get hsg hrd, Nat.le_refl _⟩, hf.get hmp hnd, ?_⟩, by unfold World.iterSeen; rw [hf.get hsg hrd]⟩
  obtain ⟨g, k1, k2, k3⟩ := hset
  refine ⟨g, k1, k2, fun t => ?_⟩
  rw [← k3 t]
  show (S0 t ∨ _) ↔ ((S0 t ∨ _) ∨ _)
  rw [or_assoc]
  refine or_congr Iff.rfl ⟨?_, ?_⟩
  · rintro ⟨y, hy, hk, hc⟩
    rw [contains_push, Bool.or_eq_true] at hc
    rcases hc with hc | hc
    · exact .inl ⟨y, hy, hk, hc⟩
    · have hb : y.born = e.born := by simpa using hc
      have := born_inj ((stamped_iff es clock).1 hst).2.1 hy hmem hb
      subst this
      exact .inr (St_inj (hk.symm.trans hs))
  · rintro (⟨y, hy, hk, hc⟩ | rfl)
    · exact ⟨y, hy, hk, by rw [contains_push, hc]; rfl⟩
    · exact ⟨e, hmem, hs, by rw [contains_push]; simp⟩

set_option maxHeartbeats 8000000 in
set_option maxRecDepth 100000 in
/-- maps.Copy -/
theorem copy_set {w : World} {d b : Nat} {S0 S : Str → Prop} (hd : MpS w d S0) (hb : MpS w b S) (hne : b ≠ d) :
    Calls Try.prog 93 #[.map (some d), .map (some b)] w fun e w' => e = .returned (.tuple #[]) ∧ MpS w' d (fun t => S0 t ∨ S t) ∧ Fr (fun c => c = d) w w' := by
  obtain ⟨gS, ⟨es, clock, hes, hst, hk, hg⟩, hv, hmem⟩ := hb
  have hdl : d < w.heap.size := by obtain ⟨g, h1, -⟩ := hd; exact h1.lt
  have hbl : b < w.heap.size := lt_of_get hes
  have hrg := run_range_map (P := Try.prog) w 79 9 4 b es clock und79 hes
  obtain ⟨W6, hW6⟩ : ∃ q : World, q = w.alloc (.mapIter (some b) clock #[] clock) := ⟨_, rfl⟩
  have hs6 : W6.heap.size = w.heap.size + 1 := by rw [hW6]; simp
  have hg6 : Grew w W6 := by rw [hW6]; exact (Fr.refl _ _).alloc _
  have hkeys : ∀ y ∈ es.toList, ∃ s, y.key = St s ∧ y.val = .bool true := fun y hy => by
    obtain ⟨s, e, h⟩ := hk y hy
    exact ⟨s, e, hv s _ h⟩
  have HK0 := hid (show CS W6 w.heap.size b d clock es S0 #[] W6 from ⟨Fr.refl _ _, ⟨clock, by rw [hW6]; exact heap_alloc_new _ _, Nat.le_refl _⟩, hg6.get hes (fun f => f), by
    obtain ⟨g, k1, k2, k3⟩ := hd.kept hg6 (fun f => f)
    exact ⟨g, k1, k2, fun t => by rw [← k3 t]; simp⟩⟩)
  have hold : ∀ y ∈ es.toList, y.born < clock := ((stamped_iff es clock).1 hst).1
  have HALL := hid (fun (seen : Array Nat) (h0 : (leftOf es seen).size = 0) (t : Str) => show (∃ e ∈ es.toList, e.key = St t ∧ seen.contains e.born = true) ↔ S t from by
    have hall := all_seen es seen h0
    constructor
    · rintro ⟨y, hy, e, -⟩
      obtain ⟨s', e', hv'⟩ := hk y hy
      have : s' = t := St_inj (e'.symm.trans e)
      subst this
      exact (hmem s').2 (by rw [hv']; simp)
    · intro hs
      have h1 := (hmem t).1 hs
      cases hgs : gS t with
      | none => exact absurd hgs h1
      | some v =>
        obtain ⟨y, hy, e⟩ := hg t v hgs
        exact ⟨y, hy, e, hall y hy⟩)
  have HST := hid hst
  have HKEYS := hid hkeys
  have HG6 := hid hg6
  have HW6 := hid hW6
  clear hW6 hd hk hg hv hmem hkeys hg6 hst
  go_enter Try.func93, Try.ntmps93
  go_wp2
  clear hrg
  go_loopw [4] (fun _ wr => ∃ seen : Array Nat, CS W6 w.heap.size b d clock es S0 seen wr) (fun _ wr => (leftOf es (wr.iterSeen w.heap.size)).size)
  case atStart => exact ⟨#[], HW6.out ▸ HK0.out⟩
  case round =>
    obtain ⟨seen, hks⟩ := hrel
    have hseen : wr.iterSeen w.heap.size = seen := by
      obtain ⟨c0, hit, -⟩ := hks.it
      unfold World.iterSeen; rw [hit]
    obtain ⟨c0, hit, hc0⟩ := hks.it
    rcases run_next_at (P := Try.prog) wr 0 w.heap.size b clock c0 seen es clock hit hks.mp hold hc0 with ⟨h0, hn⟩ | ⟨e, he, w1, hw1, hn⟩
    · have hnx : ∀ ty, (Instr.next (.pointer (some ⟨w.heap.size, 0, none⟩)) false ty).run Try.prog wr = .ok (.tuple #[.bool false]) wr := fun ty => hn
      have HFIN := hid (show MpS wr d (fun t => S0 t ∨ S t) from by
        obtain ⟨g, k1, k2, k3⟩ := hks.set
        exact ⟨g, k1, k2, fun t => by rw [← k3 t]; exact or_congr Iff.rfl (HALL.out seen h0 t).symm⟩)
      have HFR := hid (show Fr (fun c => c = d) w wr from (Grew.any HG6.out).trans hks.keep (fun c hc e => by rcases e with e | e <;> omega))
      clear hks hit hn hseen
      go_wp2
      go_end0
      exact ⟨rfl, HFIN.out, HFR.out⟩
    · have hnx : ∀ ty, (Instr.next (.pointer (some ⟨w.heap.size, 0, none⟩)) false ty).run Try.prog wr = _ := fun ty => hn
      obtain ⟨s, w6, hs, hev, hen, hput, hks6, hse6⟩ := hks.step HST.out HKEYS.out (by omega) (by omega) hne (by omega) he hw1
      rw [hs, hev] at hnx
      have hsh := left_shrinks es seen e he
      have HKS6 := hid hks6
      have HSE6 := hid hse6
      have HSE := hid hseen
      have HSH := hid hsh
      clear hks6 hse6 hseen hsh hks hit hn hs hev
      generalize setBlock w1 w.heap.size (.mapIter (some b) clock (seen.push e.born) clock) = w2 at *
      go_wp2
      go_roundw
      case rel => exact ⟨_, HKS6.out⟩
      case measure => rw [HSE.out, HSE6.out]; exact HSH.out

/-- a set of one's own, made behind B: all, or these names -/
def SV (w : World) (B : Nat) (v : Value) (A : Bool) (S : Str → Prop) : Prop := ∃ b, v = .agg #[.map (some b), .bool A] ∧ B ≤ b ∧ MpS w b S ∧ (A = true → ∀ s, ¬ S s)
theorem SV.kept {w w' : World} {B : Nat} {v : Value} {A : Bool} {S : Str → Prop} {F : Nat → Prop} (h : SV w B v A S) (k : Fr F w w') (hF : ∀ b, F b → b < B) : SV w' B v A S := by
  obtain ⟨b, e, h1, h2, h3⟩ := h
  exact ⟨b, e, h1, h2.kept k (fun f => by have := hF _ f; omega), h3⟩
theorem SV.grew {w w' : World} {B : Nat} {v : Value} {A : Bool} {S : Str → Prop} (h : SV w B v A S) (k : Grew w w') : SV w' B v A S := h.kept k (fun _ f => f.elim)
theorem SV.mono {w : World} {B C : Nat} {v : Value} {A : Bool} {S : Str → Prop} (h : SV w B v A S) (hC : C ≤ B) : SV w C v A S := by
  obtain ⟨b, e, h1, h2⟩ := h
  exact ⟨b, e, by omega, h2⟩
theorem MpS.as {w : World} {b : Nat} {S S' : Str → Prop} (h : MpS w b S) (hS : ∀ s, S s ↔ S' s) : MpS w b S' := by
  obtain ⟨g, k1, k2, k3⟩ := h
  exact ⟨g, k1, k2, fun s => (hS s).symm.trans (k3 s)⟩
theorem SV.as {w : World} {B : Nat} {v : Value} {A A' : Bool} {S S' : Str → Prop} (h : SV w B v A S) (hA : A = A') (hS : ∀ s, S s ↔ S' s) : SV w B v A' S' := by
  obtain ⟨b, e, h1, ⟨g, k1, k2, k3⟩, h3⟩ := h
  subst hA
  exact ⟨b, e, h1, ⟨g, k1, k2, fun s => (hS s).symm.trans (k3 s)⟩, fun q s hs => h3 q s ((hS s).2 hs)⟩
theorem SV.mps {w : World} {B b : Nat} {A A' : Bool} {S : Str → Prop} (h : SV w B (.agg #[.map (some b), .bool A]) A' S) : MpS w b S := by
  obtain ⟨c, e, -, h, -⟩ := h
  simp only [Value.agg.injEq, Array.mk.injEq, List.cons.injEq, Value.map.injEq, Option.some.injEq] at e
  rw [e.1]; exact h
/-- two cells of a block set one behind the other -/
abbrev set2 (w : World) (b : Nat) (u v : Value) : World := (w.setCell ⟨b, 0, none⟩ u).setCell ⟨b, 1, none⟩ v
theorem set2_fr (w : World) (b : Nat) (u v : Value) : Fr (fun c => c = b) w (set2 w b u v) := by
  have h0 : Fr (fun k => k = b) w (w.setCell ⟨b, 0, none⟩ u) := (Fr.refl (fun k => k = b) w).setCell (p := ⟨b, 0, none⟩) (fun _ => rfl) u
  exact h0.setCell (p := ⟨b, 1, none⟩) (fun _ => rfl) v
theorem set2_heap {w : World} {b : Nat} {x y : Value} {T : TypeId} (h : w.heap[b]? = some (.cells #[x, y] T (0, 0))) (u v : Value) : (set2 w b u v).heap[b]? = some (.cells #[u, v] T (0, 0)) := by
  simp [set2, World.setCell, Array.getElem?_modify, h]
theorem Try.s81 : (Try.prog.info? 81).map (·.size) = some 2 := by kernel_rfl
theorem res81 {fn : Func} {p : Tmp} (h : fn.results = #[.cell p 81]) (tmps : Array Value) (w : World) (g : Nat) {t : TypeId} {u0 u1 : Value} {fr : Nat × Nat} (hp : tmps.getD p undef = .pointer (some ⟨g, 0, none⟩)) (hg : w.heap[g]? = some (.cells #[u0, u1] t fr)) :
    (results fn tmps).run Try.prog w = .ok (.agg #[u0, u1]) w := by
  exact results_cell_row h tmps w g t _ fr _ hp hg Try.underlying81 rfl Try.s81
theorem mps_new {w : World} {b : Nat} (h : w.heap[b]? = some (.map #[] 0)) : MpS w b (fun _ => False) := ⟨fun _ => none, ⟨#[], 0, h, stamped_empty 0, by simp, by simp⟩, by simp, by simp⟩

set_option maxHeartbeats 2000000 in
/-- none -/
theorem none_any (w : World) : Calls Try.prog 73 #[] w fun e w' => ∃ v, e = .returned v ∧ SV w' w.heap.size v false (fun _ => False) ∧ Grew w w' := by
  have mk1 := mk79
  have HB := hid (heap_a2 w (.cells #[.map (some (w.heap.size + 1)), .bool false] 81) (.map #[] 0))
  have HG := hid (((Fr.refl (fun _ => False) w).alloc (.cells #[.map (some (w.heap.size + 1)), .bool false] 81)).alloc (.map #[] 0))
  go_enter Try.func73, Try.ntmps73
  go_wp2
  exact bodyPost_ret (v := .agg #[.map (some (w.heap.size + 1)), .bool false]) (by simp [results, Try.results73, go_sem]) rfl ⟨_, rfl, ⟨_, rfl, by omega, mps_new HB.out, fun e => by cases e⟩, HG.out⟩
set_option maxHeartbeats 2000000 in
set_option maxRecDepth 100000 in
/-- one -/
theorem one_any (w : World) (s : Str) : Calls Try.prog 68 #[St s] w fun e w' => ∃ v, e = .returned v ∧ SV w' w.heap.size v false (fun t => t = s) ∧ Grew w w' := by
  have mk1 := mk79
  obtain ⟨W2, hW2⟩ : ∃ q : World, q = (w.alloc (.cells #[.map none, .bool false] 81)).alloc (.map #[] 0) := ⟨_, rfl⟩
  have hb : W2.heap[w.heap.size + 1]? = some (.map #[] 0) := by rw [hW2]; exact heap_a2 w _ _
  have hb0 : W2.heap[w.heap.size]? = some (.cells #[.map none, .bool false] 81 (0, 0)) := by rw [hW2]; exact ((Fr.refl (fun _ => False) _).alloc _).get (heap_alloc_new w _) (fun f => f)
  have hg2 : Grew w W2 := by rw [hW2]; exact ((Fr.refl _ _).alloc _).alloc _
  obtain ⟨w3, hput, hset, hf⟩ := (mps_new hb).put s
  have hb3 := hf.get hb0 (by omega)
  obtain ⟨k0, k1⟩ := And.intro (cell_of_get hb3 0) (cell_of_get hb3 1)
  obtain ⟨f0, f1⟩ := And.intro (frozen_of_get hb3 0) (frozen_of_get hb3 1)
  have HG3 := hid ((Grew.any hg2).trans hf (fun _ _ e => e))
  have HSET := hid hset
  have HB3 := hid hb3
  rw [hW2] at hput
  clear hW2 hb hb0 hg2 hset hf hb3
  go_enter Try.func68, Try.ntmps68
  go_wp2
  have h2 := set2_heap HB3.out (.map (some (w.heap.size + 1))) (.bool false)
  have hf2 := set2_fr w3 w.heap.size (.map (some (w.heap.size + 1))) (.bool false)
  exact bodyPost_ret (v := .agg #[.map (some (w.heap.size + 1)), .bool false]) (res81 Try.results68 _ _ w.heap.size rfl h2) rfl ⟨_, rfl, ⟨_, rfl, by omega, (HSET.out.kept hf2 (by omega)).as (fun t => show (False ∨ t = s) ↔ t = s by simp), fun e => by cases e⟩, (HG3.out.trans hf2 (fun c hc e => by omega) : Fr (fun c => c = w.heap.size + 1) w _).mono (fun c hc e => by omega)⟩
end Go.Proofs.Ytddcfnjmppijjaa

/-! strict's sets: together. -/
namespace Go.Proofs.Ytddcfnjmppijjaa
open Go.RowKit Go.MapKept Go.ChangeMaps

/-- a map of one's own -/
def FM (B : Nat) (S : Str → Prop) (v : Value) (w : World) : Prop := ∃ g, B ≤ g ∧ v = .map (some g) ∧ MpS w g S
theorem FM.stays (B : Nat) (S : Str → Prop) (v : Value) (w w' : World) (h : Grew w w') (k : FM B S v w) : FM B S v w' := by
  obtain ⟨g, h1, e, k⟩ := k
  exact ⟨g, h1, e, k.kept h (fun f => f)⟩
/-- the two cells of a set -/
def FB (B : Nat) (S : Str → Prop) (A : Bool) (v : Value) (w : World) : Prop := ∃ g, B ≤ g ∧ v = .agg #[.map (some g), .bool A] ∧ MpS w g S
theorem FB.stays (B : Nat) (S : Str → Prop) (A : Bool) (v : Value) (w w' : World) (h : Grew w w') (k : FB B S A v w) : FB B S A v w' := by
  obtain ⟨g, h1, e, k⟩ := k
  exact ⟨g, h1, e, k.kept h (fun f => f)⟩
/-- a new block of two cells -/
def F5 (B : Nat) (v : Value) (w : World) : Prop := ∃ g, B ≤ g ∧ v = .pointer (some ⟨g, 0, none⟩) ∧ w.heap[g]? = some (.cells #[.map none, .bool false] 81 (0, 0))
theorem F5.stays (B : Nat) (v : Value) (w w' : World) (h : Grew w w') (k : F5 B v w) : F5 B v w' := by
  obtain ⟨g, h1, e, k⟩ := k
  exact ⟨g, h1, e, h.get k (fun f => f)⟩

set_option maxHeartbeats 8000000 in
set_option maxRecDepth 100000 in
/-- together -/
theorem together_any {w : World} {B1 B2 : Nat} {va vb : Value} {A A' : Bool} {S S' : Str → Prop} (ha : SV w B1 va A S) (hb : SV w B2 vb A' S') :
    Calls Try.prog 69 #[va, vb] w fun e w' => ∃ v, e = .returned v ∧ SV w' w.heap.size v (A || A') (fun s => (A || A') = false ∧ (S s ∨ S' s)) ∧ Grew w w' := by
  obtain ⟨ba, rfl, -, hma, -⟩ := ha
  obtain ⟨bb, rfl, -, hmb, -⟩ := hb
  have hla : ba < w.heap.size := by obtain ⟨g, h1, -⟩ := hma; exact h1.lt
  have hlb : bb < w.heap.size := by obtain ⟨g, h1, -⟩ := hmb; exact h1.lt
  obtain ⟨W3, hW3⟩ : ∃ q : World, q = ((w.alloc (.cells #[.map (some ba), .bool A] 81)).alloc (.cells #[.map (some bb), .bool A'] 81)).alloc (.cells #[.map none, .bool false] 81) := ⟨_, rfl⟩
  have g3 : Grew w W3 := by rw [hW3]; exact (((Fr.refl _ _).alloc _).alloc _).alloc _
  have hs3 : W3.heap.size = w.heap.size + 3 := by rw [hW3]; simp
  have hba : W3.heap[w.heap.size]? = some (.cells #[.map (some ba), .bool A] 81 (0, 0)) := by rw [hW3]; exact (((Fr.refl (fun _ => False) _).alloc _).alloc _).get (heap_alloc_new w _) (fun f => f)
  have hbb : W3.heap[w.heap.size + 1]? = some (.cells #[.map (some bb), .bool A'] 81 (0, 0)) := by rw [hW3]; exact ((Fr.refl (fun _ => False) _).alloc _).get (heap_a2 w _ _) (fun f => f)
  have hbr : W3.heap[w.heap.size + 1 + 1]? = some (.cells #[.map none, .bool false] 81 (0, 0)) := by
    rw [hW3]
    have := heap_alloc_new ((w.alloc (.cells #[.map (some ba), .bool A] 81)).alloc (.cells #[.map (some bb), .bool A'] 81)) (.cells #[.map none, .bool false] 81)
    simpa using this
  have HCA := hid (And.intro (cell_of_get hba 0) (cell_of_get hba 1))
  have HCB := hid (And.intro (cell_of_get hbb 0) (cell_of_get hbb 1))
  have HBR := hid hbr
  have HMA := hid (hma.kept g3 (fun f => f))
  have HMB := hid (hmb.kept g3 (fun f => f))
  have HG3 := hid g3
  have HS3 := hid hs3
  clear hma hmb g3 hba hbb hbr hs3
  go_enter Try.func69, Try.ntmps69
  cases A
  · cases A'
    · go_upto_region 1 with (fail)
      rw [← hW3]
      clear hW3
      refine Rg.wp_region_facts 11 Grew [(6, Rg.Ex (.pointer (some ⟨w.heap.size, 0, none⟩))), (7, Rg.Ex (.map (some ba))), (8, FM W3.heap.size S), (9, Rg.Ex (.pointer (some ⟨w.heap.size, 1, none⟩))), (10, Rg.Ex (.bool false)), (11, Rg.Ex (.bool false)), (12, Rg.Ex (.pointer (some ⟨w.heap.size + 1, 1, none⟩))), (13, Rg.Ex (.bool false)), (14, Rg.Ex (.bool false)), (15, FB W3.heap.size S false), (5, F5 W3.heap.size)] (by kernel_rfl) (by kernel_rfl) (by rfl) (by rfl)
        (fun a => Fr.refl _ a) (fun a b c h k => h.trans k (fun _ _ f => f)) (Fr.refl _ _).drew
        (Rg.Stays.all ⟨Rg.Ex.stays _, Rg.Ex.stays _, FM.stays _ _, Rg.Ex.stays _, Rg.Ex.stays _, Rg.Ex.stays _, Rg.Ex.stays _, Rg.Ex.stays _, Rg.Ex.stays _, FB.stays _ _ _, F5.stays _, trivial⟩) ?_ ?_
      · go_light
        refine Rg.OpGoals.cons (Rg.OpGoal.plain rfl ?_) (Rg.OpGoals.cons (Rg.OpGoal.plain rfl ?_) (Rg.OpGoals.cons (Rg.OpGoal.plain rfl ?_) (Rg.OpGoals.cons (Rg.OpGoal.plain rfl ?_) (Rg.OpGoals.cons (Rg.OpGoal.plain rfl ?_) (Rg.OpGoals.cons (Rg.OpGoal.plain rfl ?_) (Rg.OpGoals.cons (Rg.OpGoal.guarded (d := 11) (want := false) rfl (fun _ _ h => h) ?_) (Rg.OpGoals.cons (Rg.OpGoal.guarded (d := 11) (want := false) rfl (fun _ _ h => h) ?_) (Rg.OpGoals.cons (Rg.OpGoal.plain rfl ?_) (Rg.OpGoals.cons (Rg.OpGoal.plain rfl ?_) (Rg.OpGoals.cons (Rg.OpGoal.plain rfl ?_) Rg.OpGoals.none))))))))))
        all_goals (intro a' w' hS hR; simp [Rg.Rd, Op.operands, Call.operands, Rg.Fk, Rg.Ex] at hR)
        all_goals (have a0' := hS.cell HCA.out.1 (fun f => f))
        all_goals (have a1' := hS.cell HCA.out.2 (fun f => f))
        all_goals (have b1' := hS.cell HCB.out.2 (fun f => f))
        all_goals try (simp [Rg.Yields, execOp, Act.eval, hR, a0', a1', b1', go_sem, Rg.Fk, Rg.Ex, Fr.refl]; done)
        · simp [Rg.Yields, Act.eval, hR, go_sem, Rg.Fk, Rg.Ex]
          refine (clone_set (HMA.out.kept hS (fun f => f))).mono ?_
          rintro e w2 ⟨rfl, h1, h2, h3⟩
          exact ⟨_, rfl, ⟨_, hS.size, rfl, h1⟩, h3⟩
        · obtain ⟨⟨g, hg, e1, h1⟩, e2⟩ := hR
          simp [Rg.Yields, execOp, Act.eval, e1, e2, go_sem, Rg.Fk, Rg.Ex, Fr.refl]
          exact ⟨g, hg, rfl, h1⟩
        · simp [Rg.Yields, execOp, go_sem, Rg.Fk, Rg.Ex]
          exact ⟨⟨_, hS.size, rfl, heap_alloc_new w' _⟩, (Fr.refl _ _).alloc _⟩
      · intro w5 hS
        rintro _ rfl _ rfl v8 h8 _ rfl _ rfl _ rfl _ rfl _ rfl _ rfl v15 h15 v5 h5
        refine Rg.Then.nil ?_
        clear h8
        obtain ⟨g, hgB, rfl, hm⟩ := h15
        obtain ⟨g5, hg5, rfl, hq⟩ := h5
        have hs3 := HS3.out
        have hne : g ≠ g5 := fun e => by
          obtain ⟨_, ⟨es, clock, h1, -⟩, -⟩ := hm
          rw [e, hq] at h1; cases h1
        obtain ⟨k0, k1⟩ := And.intro (cell_of_get hq 0) (cell_of_get hq 1)
        obtain ⟨f0, f1⟩ := And.intro (frozen_of_get hq 0) (frozen_of_get hq 1)
        obtain ⟨W6, hW6⟩ : ∃ z : World, z = set2 w5 g5 (.map (some g)) (.bool false) := ⟨_, rfl⟩
        have hset : Fr (fun c => c = g5) w5 W6 := by rw [hW6]; exact set2_fr _ _ _ _
        have hq6 : W6.heap[g5]? = some (.cells #[.map (some g), .bool false] 81 (0, 0)) := by rw [hW6]; exact set2_heap hq _ _
        have hm6 := hm.kept hset hne
        have hmb6 := (HMB.out.kept hS (fun f => f)).kept hset (by omega)
        have hcopy := copy_set hm6 hmb6 (by omega)
        have g36 : Fr (fun c => c = g5) W3 W6 := (Grew.any hS).trans hset (fun _ _ e => e)
        have b0 := g36.cell HCB.out.1 (by show ¬ (w.heap.size + 1 = g5); omega)
        have hr6 := g36.get HBR.out (by omega)
        have HG36 := hid g36
        have HQ6 := hid hq6
        have HR6 := hid hr6
        have HM6 := hid (lt_of_get hq6)
        clear hm hq hset hm6 hmb6 g36 hr6 hS
        go_upto_region 2 with (fail)
        dsimp only [set2] at hW6
        rw [← hW6]
        clear hW6 k0 k1 f0 f1
        obtain ⟨c0, c1⟩ := And.intro (cell_of_get hq6 0) (cell_of_get hq6 1)
        clear hq6
        go_wp2_with (go_at_call 93; (with_reducible refine hcopy.mono ?_); rintro e w7 ⟨rfl, hm7, hf7⟩; clear hcopy c0 c1 b0; have hq7 := hf7.get HQ6.out (fun e => hne e.symm); have hr7 := hf7.get HR6.out (by omega); obtain ⟨d0, d1⟩ := And.intro (cell_of_get hq7 0) (cell_of_get hq7 1); obtain ⟨e0, e1⟩ := And.intro (frozen_of_get hq7 0) (frozen_of_get hq7 1); obtain ⟨r0, r1⟩ := And.intro (cell_of_get hr7 0) (cell_of_get hr7 1); obtain ⟨x0, x1⟩ := And.intro (frozen_of_get hr7 0) (frozen_of_get hr7 1); have HM7 := hid hm7; have HF7 := hid hf7; have HR7 := hid hr7; have HQ7 := hid hq7; have hl7 := lt_of_get hq7; have hl8 := lt_of_get hr7; clear hm7 hf7 hr7 hq7)
        have hf2 := set2_fr w7 (w.heap.size + 1 + 1) (.map (some g)) (.bool false)
        exact bodyPost_ret (v := .agg #[.map (some g), .bool false]) (res81 Try.results69 _ _ (w.heap.size + 1 + 1) rfl (set2_heap HR7.out _ _)) rfl ⟨_, rfl, ⟨_, rfl, by omega, (HM7.out.kept hf2 (by omega)).as (fun s => by simp), fun e => by cases e⟩,
          ((((Grew.any HG3.out : Fr (fun c => w.heap.size ≤ c) w W3).trans HG36.out (fun c hc e => by omega)).trans HF7.out (fun c hc e => by omega)).trans hf2 (fun c hc e => by omega)).mono (fun c hc e => by omega)⟩
    · go_upto_region 1 with (fail)
      rw [← hW3]
      clear hW3
      refine Rg.wp_region_facts 11 Grew [(6, Rg.Ex (.pointer (some ⟨w.heap.size, 0, none⟩))), (7, Rg.Ex (.map (some ba))), (8, FM W3.heap.size S), (9, Rg.Ex (.pointer (some ⟨w.heap.size, 1, none⟩))), (10, Rg.Ex (.bool false)), (11, Rg.Ex (.bool false)), (12, Rg.Ex (.pointer (some ⟨w.heap.size + 1, 1, none⟩))), (13, Rg.Ex (.bool true)), (14, Rg.Ex (.bool true)), (15, FB W3.heap.size S true), (5, F5 W3.heap.size)] (by kernel_rfl) (by kernel_rfl) (by rfl) (by rfl)
        (fun a => Fr.refl _ a) (fun a b c h k => h.trans k (fun _ _ f => f)) (Fr.refl _ _).drew
        (Rg.Stays.all ⟨Rg.Ex.stays _, Rg.Ex.stays _, FM.stays _ _, Rg.Ex.stays _, Rg.Ex.stays _, Rg.Ex.stays _, Rg.Ex.stays _, Rg.Ex.stays _, Rg.Ex.stays _, FB.stays _ _ _, F5.stays _, trivial⟩) ?_ ?_
      · go_light
        refine Rg.OpGoals.cons (Rg.OpGoal.plain rfl ?_) (Rg.OpGoals.cons (Rg.OpGoal.plain rfl ?_) (Rg.OpGoals.cons (Rg.OpGoal.plain rfl ?_) (Rg.OpGoals.cons (Rg.OpGoal.plain rfl ?_) (Rg.OpGoals.cons (Rg.OpGoal.plain rfl ?_) (Rg.OpGoals.cons (Rg.OpGoal.plain rfl ?_) (Rg.OpGoals.cons (Rg.OpGoal.guarded (d := 11) (want := false) rfl (fun _ _ h => h) ?_) (Rg.OpGoals.cons (Rg.OpGoal.guarded (d := 11) (want := false) rfl (fun _ _ h => h) ?_) (Rg.OpGoals.cons (Rg.OpGoal.plain rfl ?_) (Rg.OpGoals.cons (Rg.OpGoal.plain rfl ?_) (Rg.OpGoals.cons (Rg.OpGoal.plain rfl ?_) Rg.OpGoals.none))))))))))
        all_goals (intro a' w' hS hR; simp [Rg.Rd, Op.operands, Call.operands, Rg.Fk, Rg.Ex] at hR)
        all_goals (have a0' := hS.cell HCA.out.1 (fun f => f))
        all_goals (have a1' := hS.cell HCA.out.2 (fun f => f))
        all_goals (have b1' := hS.cell HCB.out.2 (fun f => f))
        all_goals try (simp [Rg.Yields, execOp, Act.eval, hR, a0', a1', b1', go_sem, Rg.Fk, Rg.Ex, Fr.refl]; done)
        · simp [Rg.Yields, Act.eval, hR, go_sem, Rg.Fk, Rg.Ex]
          refine (clone_set (HMA.out.kept hS (fun f => f))).mono ?_
          rintro e w2 ⟨rfl, h1, h2, h3⟩
          exact ⟨_, rfl, ⟨_, hS.size, rfl, h1⟩, h3⟩
        · obtain ⟨⟨g, hg, e1, h1⟩, e2⟩ := hR
          simp [Rg.Yields, execOp, Act.eval, e1, e2, go_sem, Rg.Fk, Rg.Ex, Fr.refl]
          exact ⟨g, hg, rfl, h1⟩
        · simp [Rg.Yields, execOp, go_sem, Rg.Fk, Rg.Ex]
          exact ⟨⟨_, hS.size, rfl, heap_alloc_new w' _⟩, (Fr.refl _ _).alloc _⟩
      · intro w5 hS
        rintro _ rfl _ rfl v8 h8 _ rfl _ rfl _ rfl _ rfl _ rfl _ rfl v15 h15 v5 h5
        refine Rg.Then.nil ?_
        clear h8
        obtain ⟨g, hgB, rfl, hm⟩ := h15
        obtain ⟨g5, hg5, rfl, hq⟩ := h5
        have hs3 := HS3.out
        have hne : g ≠ g5 := fun e => by
          obtain ⟨_, ⟨es, clock, h1, -⟩, -⟩ := hm
          rw [e, hq] at h1; cases h1
        obtain ⟨k0, k1⟩ := And.intro (cell_of_get hq 0) (cell_of_get hq 1)
        obtain ⟨f0, f1⟩ := And.intro (frozen_of_get hq 0) (frozen_of_get hq 1)
        obtain ⟨W6, hW6⟩ : ∃ z : World, z = set2 w5 g5 (.map (some g)) (.bool true) := ⟨_, rfl⟩
        have hset : Fr (fun c => c = g5) w5 W6 := by rw [hW6]; exact set2_fr _ _ _ _
        have hq6 : W6.heap[g5]? = some (.cells #[.map (some g), .bool true] 81 (0, 0)) := by rw [hW6]; exact set2_heap hq _ _
        have hm6 := hm.kept hset hne
        have hmb6 := (HMB.out.kept hS (fun f => f)).kept hset (by omega)
        have hcopy := copy_set hm6 hmb6 (by omega)
        have g36 : Fr (fun c => c = g5) W3 W6 := (Grew.any hS).trans hset (fun _ _ e => e)
        have b0 := g36.cell HCB.out.1 (by show ¬ (w.heap.size + 1 = g5); omega)
        have hr6 := g36.get HBR.out (by omega)
        have HG36 := hid g36
        have HQ6 := hid hq6
        have HR6 := hid hr6
        have HM6 := hid (lt_of_get hq6)
        clear hm hq hset hm6 hmb6 g36 hr6 hS
        go_upto_region 2 with (fail)
        dsimp only [set2] at hW6
        rw [← hW6]
        clear hW6 k0 k1 f0 f1
        obtain ⟨c0, c1⟩ := And.intro (cell_of_get hq6 0) (cell_of_get hq6 1)
        clear hq6
        have mk1 := mk79
        have hne2 : ¬ w.heap.size + 1 + 1 = g5 := by omega
        have hne3 : ¬ g5 = w.heap.size + 1 + 1 := by omega
        go_wp2_with (go_at_call 93; (with_reducible refine hcopy.mono ?_); rintro e w7 ⟨rfl, hm7, hf7⟩; clear hcopy c0 c1 b0; have hq7 := hf7.get HQ6.out (fun e => hne e.symm); have hr7 := hf7.get HR6.out (by omega); obtain ⟨d0, d1⟩ := And.intro (cell_of_get hq7 0) (cell_of_get hq7 1); obtain ⟨e0, e1⟩ := And.intro (frozen_of_get hq7 0) (frozen_of_get hq7 1); obtain ⟨r0, r1⟩ := And.intro (cell_of_get hr7 0) (cell_of_get hr7 1); obtain ⟨x0, x1⟩ := And.intro (frozen_of_get hr7 0) (frozen_of_get hr7 1); have HM7 := hid hm7; have HF7 := hid hf7; have HR7 := hid hr7; have HQ7 := hid hq7; have hl7 := lt_of_get hq7; have hl8 := lt_of_get hr7; clear hm7 hf7 hr7 hq7)
        have hs7 : Fr (fun c => c = g5) w7 (w7.setCell ⟨g5, 0, none⟩ (.map (some w7.heap.size))) := (Fr.refl (fun c => c = g5) _).setCell (p := ⟨g5, 0, none⟩) (fun _ => rfl) _
        have hf2 := set2_fr (w7.setCell ⟨g5, 0, none⟩ (.map (some w7.heap.size))) (w.heap.size + 1 + 1) (.map (some w7.heap.size)) (.bool true)
        have hh2 := set2_heap (hs7.get HR7.out (by omega)) (.map (some w7.heap.size)) (.bool true)
        have hsz : (set2 (w7.setCell ⟨g5, 0, none⟩ (.map (some w7.heap.size))) (w.heap.size + 1 + 1) (.map (some w7.heap.size)) (.bool true)).heap.size = w7.heap.size := by simp [World.setCell]
        have ha := (Fr.refl (fun _ => False) (set2 (w7.setCell ⟨g5, 0, none⟩ (.map (some w7.heap.size))) (w.heap.size + 1 + 1) (.map (some w7.heap.size)) (.bool true))).alloc (.map #[] 0)
        have hmn := heap_alloc_new (set2 (w7.setCell ⟨g5, 0, none⟩ (.map (some w7.heap.size))) (w.heap.size + 1 + 1) (.map (some w7.heap.size)) (.bool true)) (.map #[] 0)
        rw [hsz] at hmn
        exact bodyPost_ret (v := .agg #[.map (some w7.heap.size), .bool true]) (res81 Try.results69 _ _ (w.heap.size + 1 + 1) rfl (ha.get hh2 (fun f => f))) rfl ⟨_, rfl, ⟨_, rfl, by have := HF7.out.size; have := HG36.out.size; omega, (mps_new hmn).as (fun s => by simp), fun _ s h => by simp at h⟩,
          ((((((Grew.any HG3.out : Fr (fun c => w.heap.size ≤ c) w W3).trans HG36.out (fun c hc e => by omega)).trans HF7.out (fun c hc e => by omega)).trans hs7 (fun c hc e => by omega)).trans hf2 (fun c hc e => by omega)).trans ha (fun _ _ f => f.elim)).mono (fun c hc e => by omega)⟩
  · go_upto_region 1 with (fail)
    rw [← hW3]
    clear hW3
    refine Rg.wp_region_facts 11 Grew [(6, Rg.Ex (.pointer (some ⟨w.heap.size, 0, none⟩))), (7, Rg.Ex (.map (some ba))), (8, FM W3.heap.size S), (9, Rg.Ex (.pointer (some ⟨w.heap.size, 1, none⟩))), (10, Rg.Ex (.bool true)), (11, Rg.Ex (.bool true)), (12, Rg.Ex (undef)), (13, Rg.Ex (undef)), (14, Rg.Ex (.bool true)), (15, FB W3.heap.size S true), (5, F5 W3.heap.size)] (by kernel_rfl) (by kernel_rfl) (by rfl) (by rfl)
      (fun a => Fr.refl _ a) (fun a b c h k => h.trans k (fun _ _ f => f)) (Fr.refl _ _).drew
      (Rg.Stays.all ⟨Rg.Ex.stays _, Rg.Ex.stays _, FM.stays _ _, Rg.Ex.stays _, Rg.Ex.stays _, Rg.Ex.stays _, Rg.Ex.stays _, Rg.Ex.stays _, Rg.Ex.stays _, FB.stays _ _ _, F5.stays _, trivial⟩) ?_ ?_
    · go_light
      refine Rg.OpGoals.cons (Rg.OpGoal.plain rfl ?_) (Rg.OpGoals.cons (Rg.OpGoal.plain rfl ?_) (Rg.OpGoals.cons (Rg.OpGoal.plain rfl ?_) (Rg.OpGoals.cons (Rg.OpGoal.plain rfl ?_) (Rg.OpGoals.cons (Rg.OpGoal.plain rfl ?_) (Rg.OpGoals.cons (Rg.OpGoal.plain rfl ?_) (Rg.OpGoals.cons (Rg.OpGoal.passed (d := 11) (want := false) rfl (fun _ _ h e => nomatch (h.symm.trans e)) (fun _ _ h => by cases h; rfl)) (Rg.OpGoals.cons (Rg.OpGoal.passed (d := 11) (want := false) rfl (fun _ _ h e => nomatch (h.symm.trans e)) (fun _ _ h => by cases h; rfl)) (Rg.OpGoals.cons (Rg.OpGoal.plain rfl ?_) (Rg.OpGoals.cons (Rg.OpGoal.plain rfl ?_) (Rg.OpGoals.cons (Rg.OpGoal.plain rfl ?_) Rg.OpGoals.none))))))))))
      all_goals (intro a' w' hS hR; simp [Rg.Rd, Op.operands, Call.operands, Rg.Fk, Rg.Ex] at hR)
      all_goals (have a0' := hS.cell HCA.out.1 (fun f => f))
      all_goals (have a1' := hS.cell HCA.out.2 (fun f => f))
      all_goals try (simp [Rg.Yields, execOp, Act.eval, hR, a0', a1', go_sem, Rg.Fk, Rg.Ex, Fr.refl]; done)
      · simp [Rg.Yields, Act.eval, hR, go_sem, Rg.Fk, Rg.Ex]
        refine (clone_set (HMA.out.kept hS (fun f => f))).mono ?_
        rintro e w2 ⟨rfl, h1, h2, h3⟩
        exact ⟨_, rfl, ⟨_, hS.size, rfl, h1⟩, h3⟩
      · obtain ⟨⟨g, hg, e1, h1⟩, e2⟩ := hR
        simp [Rg.Yields, execOp, Act.eval, e1, e2, go_sem, Rg.Fk, Rg.Ex, Fr.refl]
        exact ⟨g, hg, rfl, h1⟩
      · simp [Rg.Yields, execOp, go_sem, Rg.Fk, Rg.Ex]
        exact ⟨⟨_, hS.size, rfl, heap_alloc_new w' _⟩, (Fr.refl _ _).alloc _⟩
    · intro w5 hS
      rintro _ rfl _ rfl v8 h8 _ rfl _ rfl _ rfl _ rfl _ rfl _ rfl v15 h15 v5 h5
      refine Rg.Then.nil ?_
      clear h8
      obtain ⟨g, hgB, rfl, hm⟩ := h15
      obtain ⟨g5, hg5, rfl, hq⟩ := h5
      have hs3 := HS3.out
      have hne : g ≠ g5 := fun e => by
        obtain ⟨_, ⟨es, clock, h1, -⟩, -⟩ := hm
        rw [e, hq] at h1; cases h1
      obtain ⟨k0, k1⟩ := And.intro (cell_of_get hq 0) (cell_of_get hq 1)
      obtain ⟨f0, f1⟩ := And.intro (frozen_of_get hq 0) (frozen_of_get hq 1)
      obtain ⟨W6, hW6⟩ : ∃ z : World, z = set2 w5 g5 (.map (some g)) (.bool true) := ⟨_, rfl⟩
      have hset : Fr (fun c => c = g5) w5 W6 := by rw [hW6]; exact set2_fr _ _ _ _
      have hq6 : W6.heap[g5]? = some (.cells #[.map (some g), .bool true] 81 (0, 0)) := by rw [hW6]; exact set2_heap hq _ _
      have hm6 := hm.kept hset hne
      have hmb6 := (HMB.out.kept hS (fun f => f)).kept hset (by omega)
      have hcopy := copy_set hm6 hmb6 (by omega)
      have g36 : Fr (fun c => c = g5) W3 W6 := (Grew.any hS).trans hset (fun _ _ e => e)
      have b0 := g36.cell HCB.out.1 (by show ¬ (w.heap.size + 1 = g5); omega)
      have hr6 := g36.get HBR.out (by omega)
      have HG36 := hid g36
      have HQ6 := hid hq6
      have HR6 := hid hr6
      have HM6 := hid (lt_of_get hq6)
      clear hm hq hset hm6 hmb6 g36 hr6 hS
      go_upto_region 2 with (fail)
      dsimp only [set2] at hW6
      rw [← hW6]
      clear hW6 k0 k1 f0 f1
      obtain ⟨c0, c1⟩ := And.intro (cell_of_get hq6 0) (cell_of_get hq6 1)
      clear hq6
      have mk1 := mk79
      have hne2 : ¬ w.heap.size + 1 + 1 = g5 := by omega
      have hne3 : ¬ g5 = w.heap.size + 1 + 1 := by omega
      go_wp2_with (go_at_call 93; (with_reducible refine hcopy.mono ?_); rintro e w7 ⟨rfl, hm7, hf7⟩; clear hcopy c0 c1 b0; have hq7 := hf7.get HQ6.out (fun e => hne e.symm); have hr7 := hf7.get HR6.out (by omega); obtain ⟨d0, d1⟩ := And.intro (cell_of_get hq7 0) (cell_of_get hq7 1); obtain ⟨e0, e1⟩ := And.intro (frozen_of_get hq7 0) (frozen_of_get hq7 1); obtain ⟨r0, r1⟩ := And.intro (cell_of_get hr7 0) (cell_of_get hr7 1); obtain ⟨x0, x1⟩ := And.intro (frozen_of_get hr7 0) (frozen_of_get hr7 1); have HM7 := hid hm7; have HF7 := hid hf7; have HR7 := hid hr7; have HQ7 := hid hq7; have hl7 := lt_of_get hq7; have hl8 := lt_of_get hr7; clear hm7 hf7 hr7 hq7)
      have hs7 : Fr (fun c => c = g5) w7 (w7.setCell ⟨g5, 0, none⟩ (.map (some w7.heap.size))) := (Fr.refl (fun c => c = g5) _).setCell (p := ⟨g5, 0, none⟩) (fun _ => rfl) _
      have hf2 := set2_fr (w7.setCell ⟨g5, 0, none⟩ (.map (some w7.heap.size))) (w.heap.size + 1 + 1) (.map (some w7.heap.size)) (.bool true)
      have hh2 := set2_heap (hs7.get HR7.out (by omega)) (.map (some w7.heap.size)) (.bool true)
      have hsz : (set2 (w7.setCell ⟨g5, 0, none⟩ (.map (some w7.heap.size))) (w.heap.size + 1 + 1) (.map (some w7.heap.size)) (.bool true)).heap.size = w7.heap.size := by simp [World.setCell]
      have ha := (Fr.refl (fun _ => False) (set2 (w7.setCell ⟨g5, 0, none⟩ (.map (some w7.heap.size))) (w.heap.size + 1 + 1) (.map (some w7.heap.size)) (.bool true))).alloc (.map #[] 0)
      have hmn := heap_alloc_new (set2 (w7.setCell ⟨g5, 0, none⟩ (.map (some w7.heap.size))) (w.heap.size + 1 + 1) (.map (some w7.heap.size)) (.bool true)) (.map #[] 0)
      rw [hsz] at hmn
      exact bodyPost_ret (v := .agg #[.map (some w7.heap.size), .bool true]) (res81 Try.results69 _ _ (w.heap.size + 1 + 1) rfl (ha.get hh2 (fun f => f))) rfl ⟨_, rfl, ⟨_, rfl, by have := HF7.out.size; have := HG36.out.size; omega, (mps_new hmn).as (fun s => by simp), fun _ s h => by simp at h⟩,
        ((((((Grew.any HG3.out : Fr (fun c => w.heap.size ≤ c) w W3).trans HG36.out (fun c hc e => by omega)).trans HF7.out (fun c hc e => by omega)).trans hs7 (fun c hc e => by omega)).trans hf2 (fun c hc e => by omega)).trans ha (fun _ _ f => f.elim)).mono (fun c hc e => by omega)⟩
end Go.Proofs.Ytddcfnjmppijjaa

/-! strict's sets: both. -/
namespace Go.Proofs.Ytddcfnjmppijjaa
open Go.RowKit Go.MapKept Go.ChangeMaps

theorem zero4 (w : World) : (zeroValue 4).run Try.prog w = .ok (.bool false) w := by
  exact Try.zeroValue4 w
theorem MpS.look {w : World} {b : Nat} {S : Str → Prop} (h : MpS w b S) (s : Str) : ∃ q : Bool, (q = true ↔ S s) ∧ (Instr.lookup 79 (.map (some b)) (.string ⟨s.toArray⟩) false).run Try.prog w = .ok (.bool q) w := by
  obtain ⟨g, h1, h2, h3⟩ := h
  have hr := h1.look und79 (zero4 w) s
  cases hg : g s with
  | none =>
    rw [hg] at hr
    exact ⟨false, ⟨fun e => (nomatch e), fun q => absurd hg ((h3 s).1 q)⟩, hr⟩
  | some v =>
    have hv := h2 s v hg
    subst hv
    rw [hg] at hr
    exact ⟨true, ⟨fun _ => (h3 s).2 (by rw [hg]; simp), fun _ => rfl⟩, hr⟩

/-- an entry is handed out -/
theorem hand_out {r ob clock : Nat} {es : Array MapEntry} {seen : Array Nat} {wr w1 : World} {c0 : Nat} (it : wr.heap[r]? = some (.mapIter (some ob) clock seen c0)) (mp : wr.heap[ob]? = some (.map es clock)) (hst : Stamped es clock) (hkey : ∀ x ∈ es.toList, ∃ s, x.key = St s ∧ x.val = .bool true)
    (hne : ob ≠ r) {e : MapEntry} (he : e ∈ (leftOf es seen).toList) (hw1 : w1 = wr ∨ w1 = wr.drew) :
    ∃ s, e.key = St s ∧ e.val = .bool true ∧ (Instr.entry (.pointer (some ⟨r, 0, none⟩))).run Try.prog (setBlock w1 r (.mapIter (some ob) clock (seen.push e.born) clock)) = .ok (.tuple #[St s, .bool true]) (setBlock w1 r (.mapIter (some ob) clock (seen.push e.born) clock)) ∧
      Fr (fun c => c = r) wr (setBlock w1 r (.mapIter (some ob) clock (seen.push e.born) clock)) ∧ (setBlock w1 r (.mapIter (some ob) clock (seen.push e.born) clock)).heap[r]? = some (.mapIter (some ob) clock (seen.push e.born) clock) ∧
      (setBlock w1 r (.mapIter (some ob) clock (seen.push e.born) clock)).heap[ob]? = some (.map es clock) ∧
      ∀ t, (∃ y ∈ es.toList, y.key = St t ∧ (seen.push e.born).contains y.born = true) ↔ ((∃ y ∈ es.toList, y.key = St t ∧ seen.contains y.born = true) ∨ t = s) := by
  obtain ⟨hmem, hns⟩ := mem_left he
  obtain ⟨s, hs, hv⟩ := hkey e hmem
  have hg1 : Grew wr w1 := by
    rcases hw1 with rfl | rfl
    · exact Fr.refl _ _
    · exact (Fr.refl _ _).drew
  have hr := lt_of_get it
  have hs1 := hg1.size
  have hsb := setBlock_fr w1 r (.mapIter (some ob) clock (seen.push e.born) clock)
  have hsg := setBlock_get (w := w1) (b := r) (by omega) (.mapIter (some ob) clock (seen.push e.born) clock)
  have hmp := hsb.get (hg1.get mp (fun f => f)) hne
  have hen := run_entry_at (P := Try.prog) (setBlock w1 r (.mapIter (some ob) clock (seen.push e.born) clock)) r ob clock seen es clock e hsg hmp hmem ((stamped_iff es clock).1 hst).2.1
  rw [hs, hv] at hen
  refine ⟨s, hs, hv, hen, (Grew.any hg1).trans hsb (fun _ _ e => e), hsg, hmp, fun t => ⟨?_, ?_⟩⟩
  · rintro ⟨y, hy, hk, hc⟩
    rw [contains_push, Bool.or_eq_true] at hc
    rcases hc with hc | hc
    · exact .inl ⟨y, hy, hk, hc⟩
    · have hb : y.born = e.born := by simpa using hc
      have := born_inj ((stamped_iff es clock).1 hst).2.1 hy hmem hb
      subst this
      exact .inr (St_inj (hk.symm.trans hs))
  · rintro (⟨y, hy, hk, hc⟩ | rfl)
    · exact ⟨y, hy, hk, by rw [contains_push, hc]; rfl⟩
    · exact ⟨e, hmem, hs, by rw [contains_push]; simp⟩

/-- what both have -/
def bothS (A A' : Bool) (S S' : Str → Prop) : Str → Prop := fun s => if A = true then S' s else if A' = true then S s else S s ∧ S' s

set_option maxHeartbeats 8000000 in
set_option maxRecDepth 100000 in
/-- both -/
theorem both_any {w : World} {B : Nat} {va vb : Value} {A A' : Bool} {S S' : Str → Prop} (ha : SV w B va A S) (hb : SV w B vb A' S') (_hB : B ≤ w.heap.size) :
    Calls Try.prog 70 #[va, vb] w fun e w' => ∃ v, e = .returned v ∧ SV w' B v (A && A') (bothS A A' S S') ∧ Grew w w' := by
  obtain ⟨ba, rfl, hba0, hma, hza⟩ := ha
  obtain ⟨bb, rfl, hbb0, hmb, hzb⟩ := hb
  have hla : ba < w.heap.size := by obtain ⟨g, h1, -⟩ := hma; exact h1.lt
  have hlb : bb < w.heap.size := by obtain ⟨g, h1, -⟩ := hmb; exact h1.lt
  obtain ⟨W3, hW3⟩ : ∃ q : World, q = ((w.alloc (.cells #[.map (some ba), .bool A] 81)).alloc (.cells #[.map (some bb), .bool A'] 81)).alloc (.cells #[.map none, .bool false] 81) := ⟨_, rfl⟩
  have g3 : Grew w W3 := by rw [hW3]; exact (((Fr.refl _ _).alloc _).alloc _).alloc _
  have hs3 : W3.heap.size = w.heap.size + 3 := by rw [hW3]; simp
  have hba : W3.heap[w.heap.size]? = some (.cells #[.map (some ba), .bool A] 81 (0, 0)) := by rw [hW3]; exact (((Fr.refl (fun _ => False) _).alloc _).alloc _).get (heap_alloc_new w _) (fun f => f)
  have hbb : W3.heap[w.heap.size + 1]? = some (.cells #[.map (some bb), .bool A'] 81 (0, 0)) := by rw [hW3]; exact ((Fr.refl (fun _ => False) _).alloc _).get (heap_a2 w _ _) (fun f => f)
  have hbr : W3.heap[w.heap.size + 1 + 1]? = some (.cells #[.map none, .bool false] 81 (0, 0)) := by
    rw [hW3]
    have := heap_alloc_new ((w.alloc (.cells #[.map (some ba), .bool A] 81)).alloc (.cells #[.map (some bb), .bool A'] 81)) (.cells #[.map none, .bool false] 81)
    simpa using this
  obtain ⟨a0, a1⟩ := And.intro (cell_of_get hba 0) (cell_of_get hba 1)
  obtain ⟨b0, b1⟩ := And.intro (cell_of_get hbb 0) (cell_of_get hbb 1)
  obtain ⟨r0, r1⟩ := And.intro (cell_of_get hbr 0) (cell_of_get hbr 1)
  obtain ⟨x0, x1⟩ := And.intro (frozen_of_get hbr 0) (frozen_of_get hbr 1)
  have HBR := hid hbr
  have HMA := hid (hma.kept g3 (fun f => f))
  have HMB := hid (hmb.kept g3 (fun f => f))
  have HG3 := hid g3
  have HS3 := hid hs3
  have HZA := hid hza
  have HZB := hid hzb
  clear hma hmb g3 hba hbr hs3 hza hzb
  cases A
  · cases A'
    · have HBB := hid hbb
      have hno := none_any W3
      clear hbb
      go_enter Try.func70, Try.ntmps70
      go_upto_region 1 with (fail)
      rw [← hW3]
      clear hW3
      go_upto_region 6 with (go_at_call 73; (with_reducible refine hno.mono ?_); rintro e w4 ⟨v4, rfl, hsv, hg4⟩; clear hno; obtain ⟨d, rfl, hd0, hmd, -⟩ := hsv)
      obtain ⟨W5, hW5⟩ : ∃ q : World, q = w4.alloc (.cells #[.map (some d), .bool false] 81) := ⟨_, rfl⟩
      have g45 : Grew w4 W5 := by rw [hW5]; exact (Fr.refl _ _).alloc _
      have hs5 : W5.heap.size = w4.heap.size + 1 := by rw [hW5]; simp
      have g35 : Grew W3 W5 := hg4.trans g45 (fun _ _ f => f)
      have ho5 : W5.heap[w4.heap.size]? = some (.cells #[.map (some d), .bool false] 81 (0, 0)) := by rw [hW5]; exact heap_alloc_new w4 _
      have hs34 := hg4.size
      have hd4 : d < w4.heap.size := by obtain ⟨g, h1, -⟩ := hmd; exact h1.lt
      replace a0 := g35.cell a0 (fun f => f)
      obtain ⟨gS, ⟨es, clock, hes, hst, hk, hg⟩, hv, hmem⟩ := HMA.out.kept g35 (fun f => f)
      have hrg := run_range_map (P := Try.prog) W5 79 9 4 ba es clock und79 hes
      obtain ⟨W6, hW6⟩ : ∃ q : World, q = W5.alloc (.mapIter (some ba) clock #[] clock) := ⟨_, rfl⟩
      have g56 : Grew W5 W6 := by rw [hW6]; exact (Fr.refl _ _).alloc _
      have hkeys : ∀ y ∈ es.toList, ∃ s, y.key = St s ∧ y.val = .bool true := fun y hy => by
        obtain ⟨s, e, h⟩ := hk y hy
        exact ⟨s, e, hv s _ h⟩
      have hold : ∀ y ∈ es.toList, y.born < clock := ((stamped_iff es clock).1 hst).1
      have HALL := hid (fun (seen : Array Nat) (h0 : (leftOf es seen).size = 0) (t : Str) => show (∃ e ∈ es.toList, e.key = St t ∧ seen.contains e.born = true) ↔ S t from by
        have hall := all_seen es seen h0
        constructor
        · rintro ⟨y, hy, e, -⟩
          obtain ⟨s', e', hv'⟩ := hk y hy
          have : s' = t := St_inj (e'.symm.trans e)
          subst this
          exact (hmem s').2 (by rw [hv']; simp)
        · intro hs
          have h1 := (hmem t).1 hs
          cases hgs : gS t with
          | none => exact absurd hgs h1
          | some v =>
            obtain ⟨y, hy, e⟩ := hg t v hgs
            exact ⟨y, hy, e, hall y hy⟩)
      have HIT := hid (show W6.heap[W5.heap.size]? = some (.mapIter (some ba) clock #[] clock) by rw [hW6]; exact heap_alloc_new W5 _)
      have HMP := hid (g56.get hes (fun f => f))
      have HD6 := hid ((hmd.kept g45 (fun f => f)).kept g56 (fun f => f))
      have HB6 := hid (HMB.out.kept (g35.trans g56 (fun _ _ f => f)) (fun f => f))
      have HO6 := hid (g56.get ho5 (fun f => f))
      have HBB6 := hid ((g35.trans g56 (fun _ _ f => f)).get HBB.out (fun f => f))
      have HRR6 := hid ((g35.trans g56 (fun _ _ f => f)).get HBR.out (fun f => f))
      have HG6 := hid (HG3.out.trans (g35.trans g56 (fun _ _ f => f)) (fun _ _ f => f))
      have HST := hid hst
      have HKEYS := hid hkeys
      have HW6 := hid hW6
      have HS6 := hid (show W6.heap.size = W5.heap.size + 1 by rw [hW6]; simp)
      have HS5 := hid hs5
      rw [← hW5]
      clear hs5 hW5 hW6 g45 g35 g56 ho5 hmd hes hst hk hg hv hmem hkeys a1 b0 b1 r0 r1 x0 x1 hg4
      go_wp2
      clear hrg a0
      go_loopw [6] (fun _ wr => ∃ (seen : Array Nat) (c0 : Nat), Fr (fun c => c = W5.heap.size ∨ c = d) W6 wr ∧ wr.heap[W5.heap.size]? = some (.mapIter (some ba) clock seen c0) ∧ clock ≤ c0 ∧ wr.heap[ba]? = some (.map es clock) ∧
        MpS wr d (fun t => (∃ e ∈ es.toList, e.key = St t ∧ seen.contains e.born = true) ∧ S' t)) (fun _ wr => (leftOf es (wr.iterSeen W5.heap.size)).size)
      case atStart => exact ⟨#[], clock, by rw [← HW6.out]; exact Fr.refl _ _, by rw [← HW6.out]; exact HIT.out, Nat.le_refl _, by rw [← HW6.out]; exact HMP.out, by rw [← HW6.out]; exact HD6.out.as (fun t => by simp)⟩
      case round =>
        obtain ⟨seen, c0, hfr, hit, hc0, hmp, hms⟩ := hrel
        have hseen : wr.iterSeen W5.heap.size = seen := by unfold World.iterSeen; rw [hit]
        have hs6 := HS6.out
        have hs3 := HS3.out
        have hs5 := HS5.out
        have o0 := hfr.cell (cell_of_get HO6.out 0) (by show ¬ (w4.heap.size = W5.heap.size ∨ w4.heap.size = d); omega)
        have o1 := hfr.cell (cell_of_get HO6.out 1) (by show ¬ (w4.heap.size = W5.heap.size ∨ w4.heap.size = d); omega)
        have HRRr := hid (hfr.get HRR6.out (by omega))
        rcases run_next_at (P := Try.prog) wr 0 W5.heap.size ba clock c0 seen es clock hit hmp hold hc0 with ⟨h0, hn⟩ | ⟨e, he, w1, hw1, hn⟩
        · have hnx : ∀ ty, (Instr.next (.pointer (some ⟨W5.heap.size, 0, none⟩)) false ty).run Try.prog wr = .ok (.tuple #[.bool false]) wr := fun ty => hn
          obtain ⟨r0, r1⟩ := And.intro (cell_of_get HRRr.out 0) (cell_of_get HRRr.out 1)
          obtain ⟨x0, x1⟩ := And.intro (frozen_of_get HRRr.out 0) (frozen_of_get HRRr.out 1)
          have HFR := hid hfr
          have HMS := hid (hms.as (fun t => show ((∃ e ∈ es.toList, e.key = St t ∧ seen.contains e.born = true) ∧ S' t) ↔ bothS false false S S' t by rw [HALL.out seen h0 t]; simp [bothS]))
          clear hit hn hmp hms hfr hseen hs6 hs3 hs5
          go_wp2
          have hs6 := HS6.out
          have hs3 := HS3.out
          have hs5 := HS5.out
          have hf2 := set2_fr wr (w.heap.size + 1 + 1) (.map (some d)) (.bool false)
          exact bodyPost_ret (v := .agg #[.map (some d), .bool false]) (res81 Try.results70 _ _ (w.heap.size + 1 + 1) rfl (set2_heap HRRr.out _ _)) rfl ⟨_, rfl, ⟨_, rfl, by omega, HMS.out.kept hf2 (by omega), fun e => by cases e⟩,
            (((Grew.any HG6.out : Fr (fun c => w.heap.size ≤ c) w W6).trans HFR.out (fun c hc e => by omega)).trans hf2 (fun c hc e => by omega)).mono (fun c hc e => by omega)⟩
        · have hnx : ∀ ty, (Instr.next (.pointer (some ⟨W5.heap.size, 0, none⟩)) false ty).run Try.prog wr = _ := fun ty => hn
          obtain ⟨s, hs, hev, hen, hf2, hit2, hmp2, hmem2⟩ := hand_out hit hmp HST.out HKEYS.out (by omega) he hw1
          rw [hs, hev] at hnx
          have hsh := left_shrinks es seen e he
          have hms2 := hms.kept hf2 (by omega)
          have hfr2 := hfr.trans hf2 (fun _ _ e => .inl e)
          have hmb2 := HB6.out.kept hfr2 (by omega)
          have b0 := hfr2.cell (cell_of_get HBB6.out 0) (by show ¬ (w.heap.size + 1 = W5.heap.size ∨ w.heap.size + 1 = d); omega)
          replace o0 := hf2.cell o0 (by show ¬ (w4.heap.size = W5.heap.size); omega)
          obtain ⟨q, hq, hlk⟩ := hmb2.look s
          have HSE := hid hseen
          have HSH := hid hsh
          have HFR2 := hid hfr2
          have HIT2 := hid hit2
          have HMP2 := hid hmp2
          have HM2 := hid hmem2
          have HMS2 := hid hms2
          have HQ := hid hq
          clear hit hn hs hev hseen hmp hms hfr hsh hfr2 hit2 hmp2 hmem2 hms2 hmb2 hq hf2 o1 HRRr hs6 hs3 hs5
          generalize setBlock w1 W5.heap.size (.mapIter (some ba) clock (seen.push e.born) clock) = w2 at *
          cases q
          · clear o0
            go_wp2
            go_roundw
            case rel => exact ⟨_, _, HFR2.out, HIT2.out, Nat.le_refl _, HMP2.out, HMS2.out.as (fun t => by
              rw [HM2.out t]
              constructor
              · rintro ⟨h, k⟩; exact ⟨.inl h, k⟩
              · rintro ⟨h | rfl, k⟩
                · exact ⟨h, k⟩
                · exact absurd (HQ.out.2 k) (by simp))⟩
            case measure =>
              rw [HSE.out]
              have : w2.iterSeen W5.heap.size = seen.push e.born := by unfold World.iterSeen; rw [HIT2.out]
              rw [this]; exact HSH.out
          · obtain ⟨w6, hput, hset6, hf6⟩ := HMS2.out.put s
            have hdr : ¬ W5.heap.size = d := by have := HS5.out; omega
            have hdb : ¬ ba = d := by have := HS3.out; omega
            have HSET6 := hid hset6
            have HF6 := hid hf6
            have HIT6 := hid (hf6.get HIT2.out hdr)
            have HDB := hid hdb
            clear hset6 hf6 hdr hdb
            go_wp2
            go_roundw
            case rel => exact ⟨_, _, HFR2.out.trans HF6.out (fun _ _ e => .inr e), HIT6.out, Nat.le_refl _, HF6.out.get HMP2.out HDB.out, HSET6.out.as (fun t => by
              rw [HM2.out t]
              constructor
              · rintro (⟨h, k⟩ | rfl)
                · exact ⟨.inl h, k⟩
                · exact ⟨.inr rfl, HQ.out.1 rfl⟩
              · rintro ⟨h | h, k⟩
                · exact .inl ⟨h, k⟩
                · exact .inr h)⟩
            case measure =>
              rw [HSE.out]
              have : w6.iterSeen W5.heap.size = seen.push e.born := by unfold World.iterSeen; rw [HIT6.out]
              rw [this]; exact HSH.out
    · clear hbb
      go_enter Try.func70, Try.ntmps70
      go_upto_region 1 with (fail)
      rw [← hW3]
      clear hW3
      go_wp2
      have hf2 := set2_fr W3 (w.heap.size + 1 + 1) (.map (some ba)) (.bool false)
      exact bodyPost_ret (v := .agg #[.map (some ba), .bool false]) (res81 Try.results70 _ _ (w.heap.size + 1 + 1) rfl (set2_heap HBR.out _ _)) rfl ⟨_, rfl, ⟨_, rfl, hba0, (HMA.out.kept hf2 (by omega)).as (fun s => by simp [bothS]), fun e => by cases e⟩, HG3.out.trans hf2 (fun c hc e => by omega)⟩
  · clear hbb
    go_enter Try.func70, Try.ntmps70
    go_upto_region 1 with (fail)
    rw [← hW3]
    clear hW3
    go_wp2
    have hf2 := set2_fr W3 (w.heap.size + 1 + 1) (.map (some bb)) (.bool A')
    exact bodyPost_ret (v := .agg #[.map (some bb), .bool A']) (res81 Try.results70 _ _ (w.heap.size + 1 + 1) rfl (set2_heap HBR.out _ _)) rfl ⟨_, rfl, ⟨_, rfl, hbb0, (HMB.out.kept hf2 (by omega)).as (fun s => by simp [bothS]), fun e s hs => HZB.out (by simpa using e) s (by simpa [bothS] using hs)⟩, HG3.out.trans hf2 (fun c hc e => by omega)⟩
end Go.Proofs.Ytddcfnjmppijjaa

/-! What a term demands, in plain words; needs in memory; strict's of. -/
namespace Go.Proofs.Ytddcfnjmppijjaa
open Go.RowKit

/-- what is demanded: all, or these names -/
structure DS where
  all : Prop
  mem : Str → Prop
/-- both together -/
def DS.un (a b : DS) : DS := ⟨a.all ∨ b.all, fun s => a.mem s ∨ b.mem s⟩
/-- what both have -/
def DS.mt (a b : DS) : DS := ⟨a.all ∧ b.all, fun s => (a.all ∨ a.mem s) ∧ (b.all ∨ b.mem s)⟩
def DS.no : DS := ⟨False, fun _ => False⟩
def DS.ev : DS := ⟨True, fun _ => False⟩
def DS.on (s : Str) : DS := ⟨False, fun t => t = s⟩
/-- as much -/
def DS.eqv (a b : DS) : Prop := (a.all ↔ b.all) ∧ (¬ a.all → ∀ s, a.mem s ↔ b.mem s)

/-- needs: names, which of their arguments -/
abbrev Ned := List (Str × List Bool)
def ofs (l : Ned) (k : Int) (t : Str) : List Bool := if k = 5 then ((l.find? (fun n => decide (n.1 = t))).map (·.2)).getD [] else []

/-- all of them together -/
def unl : List DS → DS
  | [] => DS.no
  | d :: r => d.un (unl r)
/-- those that are asked -/
def pick : List Bool → List DS → List DS
  | true :: bs, d :: r => d :: pick bs r
  | false :: bs, _ :: r => pick bs r
  | _, _ => []
/-- reached from a set, over what names are bound to -/
inductive Rch (d0 : DS) (ps : List (Str × DS)) : Str → Prop
  | base (s : Str) (h : d0.mem s) : Rch d0 ps s
  | step (n s : Str) (d : DS) (hp : (n, d) ∈ ps) (hn : Rch d0 ps n) (hs : d.mem s) : Rch d0 ps s
/-- of a let: what is reached, without the names -/
def letD (d0 : DS) (ps : List (Str × DS)) : DS := ⟨d0.all ∨ ∃ n d, (n, d) ∈ ps ∧ Rch d0 ps n ∧ d.all, fun s => Rch d0 ps s ∧ s ∉ ps.map (·.1)⟩

/-- of a term: its kind, its text, its names, its parts, what these demand -/
def demF (l : Ned) (k : Int) (t : Str) (ns : List Str) (a : List X) (ds : List DS) : DS :=
  if k = 5 then DS.on t
  else if k = 8 then match ds with
    | [d, e, f] => d.un (e.mt f)
    | _ => DS.no
  else if k = 7 then match a, ds with
    | x :: _, d :: r => if (ofs l x.kind x.text).length ≤ r.length then d.un (unl (pick (ofs l x.kind x.text) r)) else d
    | _, _ => DS.no
  else if k = 9 then letD ((ds[ns.length]?).getD DS.no) (ns.zip ds)
  else if k = 10 then (if t = [101, 114, 114, 111, 114] then DS.ev else if t = [99, 111, 110, 115] then DS.no else unl ds)
  else DS.no
mutual
/-- what a term demands -/
def dem (l : Ned) : X → DS
  | .mk k t ns a => demF l k t ns a (dems l a)
def dems (l : Ned) : List X → List DS
  | [] => []
  | x :: r => dem l x :: dems l r
end
theorem dems_get (n : Ned) {l : List X} {i : Nat} {x : X} (h : l[i]? = some x) : (dems n l)[i]? = some (dem n x) := by
  induction l generalizing i with
  | nil => simp at h
  | cons y r ih =>
    cases i with
    | zero => simp at h; subst h; rfl
    | succ i => exact ih (by simpa using h)
theorem dems_length (n : Ned) (l : List X) : (dems n l).length = l.length := by
  induction l with
  | nil => rfl
  | cons y r ih => simp only [dems, List.length_cons, ih]

/-- a set of one's own that says this -/
def SD (w : World) (B : Nat) (v : Value) (d : DS) : Prop := ∃ A S, SV w B v A S ∧ (A = true ↔ d.all) ∧ (A = false → ∀ s, S s ↔ d.mem s)
theorem SD.kept {w w' : World} {B : Nat} {v : Value} {d : DS} {F : Nat → Prop} (h : SD w B v d) (k : Fr F w w') (hF : ∀ b, F b → b < B) : SD w' B v d := by
  obtain ⟨A, S, h1, h2⟩ := h
  exact ⟨A, S, h1.kept k hF, h2⟩
theorem SD.grew {w w' : World} {B : Nat} {v : Value} {d : DS} (h : SD w B v d) (k : Grew w w') : SD w' B v d := h.kept k (fun _ f => f.elim)
theorem SD.mono {w : World} {B C : Nat} {v : Value} {d : DS} (h : SD w B v d) (hC : C ≤ B) : SD w C v d := by
  obtain ⟨A, S, h1, h2⟩ := h
  exact ⟨A, S, h1.mono hC, h2⟩
theorem SD.as {w : World} {B : Nat} {v : Value} {d e : DS} (h : SD w B v d) (k : d.eqv e) : SD w B v e := by
  obtain ⟨A, S, h1, h2, h3⟩ := h
  exact ⟨A, S, h1, h2.trans k.1, fun q s => (h3 q s).trans (k.2 (fun z => by rw [h2.2 z] at q; cases q) s)⟩
theorem SD.shape {w : World} {B : Nat} {v : Value} {d : DS} (h : SD w B v d) : ∃ b A, v = .agg #[.map (some b), .bool A] := by
  obtain ⟨A, S, ⟨b, e, -⟩, -⟩ := h
  exact ⟨b, A, e⟩

theorem none_d (w : World) : Calls Try.prog 73 #[] w fun e w' => ∃ v, e = .returned v ∧ SD w' w.heap.size v DS.no ∧ Grew w w' :=
  (none_any w).mono fun e w' ⟨v, h1, h2, h3⟩ => ⟨v, h1, ⟨_, _, h2, by simp [DS.no], fun _ _ => Iff.rfl⟩, h3⟩
theorem one_d (w : World) (s : Str) : Calls Try.prog 68 #[St s] w fun e w' => ∃ v, e = .returned v ∧ SD w' w.heap.size v (DS.on s) ∧ Grew w w' :=
  (one_any w s).mono fun e w' ⟨v, h1, h2, h3⟩ => ⟨v, h1, ⟨_, _, h2, by simp [DS.on], fun _ _ => Iff.rfl⟩, h3⟩
theorem together_d {w : World} {B1 B2 : Nat} {va vb : Value} {d e : DS} (ha : SD w B1 va d) (hb : SD w B2 vb e) :
    Calls Try.prog 69 #[va, vb] w fun r w' => ∃ v, r = .returned v ∧ SD w' w.heap.size v (d.un e) ∧ Grew w w' := by
  obtain ⟨A, S, h1, h2, h3⟩ := ha
  obtain ⟨A', S', k1, k2, k3⟩ := hb
  refine (together_any h1 k1).mono fun r w' ⟨v, e1, e2, e3⟩ => ⟨v, e1, ⟨_, _, e2, ?_, fun q s => ?_⟩, e3⟩
  · rw [Bool.or_eq_true, h2, k2]; rfl
  · obtain ⟨q1, q2⟩ := Bool.or_eq_false_iff.1 q
    show (A || A') = false ∧ (S s ∨ S' s) ↔ _
    rw [h3 q1 s, k3 q2 s]
    exact ⟨fun z => z.2, fun z => ⟨q, z⟩⟩
theorem both_d {w : World} {B : Nat} {va vb : Value} {d e : DS} (ha : SD w B va d) (hb : SD w B vb e) (hB : B ≤ w.heap.size) :
    Calls Try.prog 70 #[va, vb] w fun r w' => ∃ v, r = .returned v ∧ SD w' B v (d.mt e) ∧ Grew w w' := by
  obtain ⟨A, S, h1, h2, h3⟩ := ha
  obtain ⟨A', S', k1, k2, k3⟩ := hb
  refine (both_any h1 k1 hB).mono fun r w' ⟨v, e1, e2, e3⟩ => ⟨v, e1, ⟨_, _, e2, ?_, fun q s => ?_⟩, e3⟩
  · rw [Bool.and_eq_true, h2, k2]; rfl
  · show bothS A A' S S' s ↔ (d.all ∨ d.mem s) ∧ (e.all ∨ e.mem s)
    unfold bothS
    cases A
    · have hd : ¬ d.all := fun z => by have := h2.2 z; cases this
      cases A'
      · have he : ¬ e.all := fun z => by have := k2.2 z; cases this
        simp [h3 rfl s, k3 rfl s, hd, he]
      · simp [h3 rfl s, hd, k2.1 rfl]
    · cases A'
      · have he : ¬ e.all := fun z => by have := k2.2 z; cases this
        simp [k3 rfl s, he, h2.1 rfl]
      · cases q

/-- a row of truths -/
def Bo (w : World) (D : Nat → Prop) (v : Value) (l : List Bool) : Prop :=
  ∃ ad cap, v = .slice ad l.length cap ∧ l.length ≤ cap ∧ cap ≤ maxLen ∧ (l = [] ∨ ∃ g o, ad = some ⟨g, o, none⟩ ∧ ¬ D g ∧ ∀ i b, l[i]? = some b → w.cell? ⟨g, o + i, none⟩ = some (.bool b))
theorem Bo.kept {w w' : World} {F D : Nat → Prop} {v : Value} {l : List Bool} (h : Bo w D v l) (k : Fr F w w') (hF : ∀ b, F b → D b) : Bo w' D v l := by
  obtain ⟨ad, cap, h1, h2, h3, h4⟩ := h
  refine ⟨ad, cap, h1, h2, h3, ?_⟩
  rcases h4 with h4 | ⟨g, o, h5, h6, h7⟩
  · exact .inl h4
  · exact .inr ⟨g, o, h5, h6, fun i b hi => k.cell (h7 i b hi) (fun f => h6 (hF _ f))⟩
theorem Bo.grew {w w' : World} {D : Nat → Prop} {v : Value} {l : List Bool} (h : Bo w D v l) (k : Grew w w') : Bo w' D v l := h.kept k (fun _ f => f.elim)
theorem Bo.shape {w : World} {D : Nat → Prop} {v : Value} {l : List Bool} (h : Bo w D v l) : ∃ ad cap, v = .slice ad l.length cap ∧ l.length ≤ cap ∧ cap ≤ maxLen := by
  obtain ⟨ad, cap, h1, h2, h3, -⟩ := h
  exact ⟨ad, cap, h1, h2, h3⟩
theorem Bo.none (w : World) (D : Nat → Prop) : Bo w D (.slice none 0 0) [] := ⟨_, _, rfl, Nat.le_refl _, by simp [maxLen], .inl rfl⟩
/-- needs in memory -/
def Nd (w : World) (D : Nat → Prop) (v : Value) (l : Ned) : Prop :=
  ∃ ad cap, v = .slice ad l.length cap ∧ l.length ≤ cap ∧ cap ≤ maxLen ∧ (l = [] ∨ ∃ g o, ad = some ⟨g, o, none⟩ ∧ ¬ D g ∧ ∀ i n, l[i]? = some n → w.cell? ⟨g, o + i * 2, none⟩ = some (St n.1) ∧ ∃ a c, w.cell? ⟨g, o + i * 2 + 1, none⟩ = some (.slice a n.2.length c) ∧ Bo w D (.slice a n.2.length c) n.2)
theorem Nd.kept {w w' : World} {F D : Nat → Prop} {v : Value} {l : Ned} (h : Nd w D v l) (k : Fr F w w') (hF : ∀ b, F b → D b) : Nd w' D v l := by
  obtain ⟨ad, cap, h1, h2, h3, h4⟩ := h
  refine ⟨ad, cap, h1, h2, h3, ?_⟩
  rcases h4 with h4 | ⟨g, o, h5, h6, h7⟩
  · exact .inl h4
  · refine .inr ⟨g, o, h5, h6, fun i n hi => ?_⟩
    obtain ⟨k1, a, c, k2, k3⟩ := h7 i n hi
    exact ⟨k.cell k1 (fun f => h6 (hF _ f)), a, c, k.cell k2 (fun f => h6 (hF _ f)), k3.kept k hF⟩
theorem Nd.grew {w w' : World} {D : Nat → Prop} {v : Value} {l : Ned} (h : Nd w D v l) (k : Grew w w') : Nd w' D v l := h.kept k (fun _ f => f.elim)

theorem ofs_at {l : Ned} {j : Nat} {n : Str × List Bool} {t : Str} (h : l[j]? = some n) (hn : n.1 = t) (hb : ∀ m ∈ l.take j, m.1 ≠ t) : ofs l 5 t = n.2 := by
  have : l.find? (fun n => decide (n.1 = t)) = some n := by
    induction l generalizing j with
    | nil => simp at h
    | cons m r ih =>
      cases j with
      | zero => simp at h; subst h; simp [hn]
      | succ j =>
        have h1 := hb m (by simp)
        rw [List.find?_cons_of_neg (by simpa using h1)]
        exact ih (by simpa using h) (fun x hx => hb x (by simp [hx]))
  simp [ofs, this]
theorem ofs_no {l : Ned} {t : Str} (hb : ∀ m ∈ l, m.1 ≠ t) : ofs l 5 t = [] := by
  have : l.find? (fun n => decide (n.1 = t)) = none := List.find?_eq_none.2 (fun m hm => by simpa using hb m hm)
  simp [ofs, this]
set_option maxHeartbeats 4000000 in
set_option maxRecDepth 100000 in
/-- of -/
theorem of_any {w : World} {D : Nat → Prop} {v : Value} {l : Ned} (h : Nd w D v l) (k : Int) (t : Str) (vn va : Value) :
    Calls Try.prog 94 #[.agg #[v], .agg #[Kv k, St t, vn, va]] w fun e w' => ∃ r, e = .returned r ∧ Bo w' D r (ofs l k t) ∧ Grew w w' := by
  obtain ⟨ad, cap, rfl, h1, h2, h3⟩ := h
  replace h2 : cap ≤ 9223372036854775807 := h2
  obtain ⟨W, hW⟩ : ∃ q : World, q = (w.alloc (.cells #[.slice ad l.length cap] 83)).alloc (.cells #[Kv k, St t, vn, va] 28) := ⟨_, rfl⟩
  have gW : Grew w W := by rw [hW]; exact ((Fr.refl _ _).alloc _).alloc _
  have hb0 : W.heap[w.heap.size]? = some (.cells #[.slice ad l.length cap] 83 (0, 0)) := by rw [hW]; exact ((Fr.refl (fun _ => False) _).alloc _).get (heap_alloc_new w _) (fun f => f)
  have hb1 : W.heap[w.heap.size + 1]? = some (.cells #[Kv k, St t, vn, va] 28 (0, 0)) := by rw [hW]; exact heap_a2 w _ _
  have e0 := cell_of_get hb0 0
  have HE0 := hid (cell_of_get hb1 0)
  have HE1 := hid (cell_of_get hb1 1)
  have HG := hid gW
  have HH := hid h3
  clear h3 hb0 hb1 gW
  go_enter Try.func94, Try.ntmps94
  go_upto_region 1 with (fail)
  rw [← hW]
  clear hW
  go_wp2
  clear e0
  go_loopw [10] (fun b wr => ∃ j : Nat, j ≤ l.length ∧ b = .int .i64 j ∧ Grew W wr ∧ (k = 5 → ∀ n ∈ l.take j, n.1 ≠ t)) (fun i _ => l.length - (intOf i).toNat)
  case atStart => exact ⟨0, Nat.zero_le _, rfl, Fr.refl _ _, by simp⟩
  case round =>
    obtain ⟨j, hj, rfl, hgr, hno⟩ := hrel
    have HNO := hid hno
    have HGR := hid hgr
    have e0 := hgr.cell HE0.out (fun f => f)
    have e1 := hgr.cell HE1.out (fun f => f)
    have hl1 : w.heap.size + 1 < wr.heap.size := World.block_lt_of_cell? wr _ e0
    clear hno
    by_cases hlt : j < l.length
    · obtain ⟨n, hn⟩ := at_of_lt hlt
      obtain ⟨g, o, rfl, -, hel⟩ := HH.out.resolve_left (fun e => by rw [e] at hlt; simp at hlt)
      obtain ⟨k1, a, c, k2, k3⟩ := hel j n hn
      have hgw := HG.out.trans hgr (fun _ _ f => f)
      replace k1 := hgw.cell k1 (fun f => f)
      replace k2 := hgw.cell k2 (fun f => f)
      have HB := hid (k3.grew hgw)
      have HN := hid hn
      have HA := hid ((Fr.refl (fun _ => False) wr).alloc (.cells #[St n.1, .slice a n.2.length c] 42))
      clear hel hgr hgw k3 hn
      by_cases k5 : k = 5
      · subst k5
        by_cases hnt : n.1 = t
        · have HV := hid (ofs_at HN.out hnt (HNO.out rfl))
          rw [hnt] at k1
          clear hnt
          go_wp2
          go_ret
          exact ⟨_, rfl, by rw [HV.out]; exact HB.out.grew ((Fr.refl _ _).alloc _), (HG.out.trans HGR.out (fun _ _ f => f)).trans ((Fr.refl _ _).alloc _) (fun _ _ f => f)⟩
        · have hne2 : (n.1 == t) = false := by simpa using hnt
          have HT := hid (show (5 : Int) = 5 → ∀ m ∈ l.take (j + 1), m.1 ≠ t from fun _ m hm => by
            rw [List.take_add_one, HN.out] at hm
            rcases List.mem_append.1 hm with q | q
            · exact HNO.out rfl m q
            · simp at q; rw [q]; exact hnt)
          clear hnt
          go_wp2
          go_roundw
          case rel => exact ⟨j + 1, by omega, by go_num, HGR.out.trans ((Fr.refl _ _).alloc _) (fun _ _ f => f), fun _ => HT.out rfl⟩
          case measure => simp [intOf]; omega
      · have hk5 : (k == 5) = false := by simpa using k5
        have HK5 := hid k5
        clear k5
        go_wp2
        go_roundw
        case rel => exact ⟨j + 1, by omega, by go_num, HGR.out.trans ((Fr.refl _ _).alloc _) (fun _ _ f => f), fun e => absurd e HK5.out⟩
        case measure => simp [intOf]; omega
    · obtain rfl : j = l.length := by omega
      have HV := hid (show ofs l k t = [] from by
        by_cases k5 : k = 5
        · subst k5
          exact ofs_no (fun m hm => HNO.out rfl m (by rwa [List.take_length]))
        · simp [ofs, k5])
      clear hgr
      go_wp2
      go_ret
      exact ⟨_, rfl, by rw [HV.out]; exact Bo.none _ _, HG.out.trans HGR.out (fun _ _ f => f)⟩
end Go.Proofs.Ytddcfnjmppijjaa

/-! strict's each. -/
namespace Go.Proofs.Ytddcfnjmppijjaa
open Go.RowKit

/-- what demands answers -/
def DmPost (w : World) (d : DS) (e : Ending) (w' : World) : Prop := ∃ r, e = .returned r ∧ SD w' w.heap.size r d ∧ Grew w w'
/-- .. of the parts -/
def DkAt (w : World) (D : Nat → Prop) (vN : Value) (nl : Ned) (av : Option Addr) (l : List X) : Prop :=
  l ≠ [] → ∃ g o, av = some ⟨g, o, none⟩ ∧ ∀ i x, l[i]? = some x → ∃ an cn aa ca, El w D g (o + i * 4) x an cn aa ca ∧ ∀ w', Grew w w' →
    Calls Try.prog 50 #[.agg #[vN], .agg #[Kv x.kind, St x.text, .slice an x.names.length cn, .slice aa x.parts.length ca]] w' (DmPost w' (dem nl x))
/-- a set of one's own -/
def FS8 (B : Nat) (d : DS) (v : Value) (w : World) : Prop := SD w B v d
theorem FS8.stays (B : Nat) (d : DS) (v : Value) (w w' : World) (h : Grew w w') (k : FS8 B d v w) : FS8 B d v w' := SD.grew k h

theorem SD.keptn {w w' : World} {B : Nat} {v : Value} {d : DS} {F : Nat → Prop} (h : SD w B v d) (k : Fr F w w') (hF : ∀ b A, v = .agg #[.map (some b), .bool A] → ¬ F b) : SD w' B v d := by
  obtain ⟨A, S, ⟨b, e, h1, h2, h3⟩, h4⟩ := h
  exact ⟨A, S, ⟨b, e, h1, h2.kept k (hF b A e), h3⟩, h4⟩
theorem SD.lt {w : World} {B b : Nat} {A : Bool} {d : DS} (h : SD w B (.agg #[.map (some b), .bool A]) d) : B ≤ b ∧ b < w.heap.size := by
  obtain ⟨A', S, ⟨b', e, h1, ⟨g, h2, -⟩, -⟩, -⟩ := h
  have : b' = b := by
    simp only [Value.agg.injEq, Array.mk.injEq, List.cons.injEq, Value.map.injEq, Option.some.injEq] at e
    exact e.1.symm
  subst this
  exact ⟨h1, h2.lt⟩
theorem agg_inj {b b' : Nat} {A A' : Bool} (e : (Value.agg #[.map (some b), .bool A]) = .agg #[.map (some b'), .bool A']) : b = b' := by
  simp only [Value.agg.injEq, Array.mk.injEq, List.cons.injEq, Value.map.injEq, Option.some.injEq] at e
  exact e.1
theorem unl_take {ds : List DS} {j : Nat} {d : DS} (h : ds[j]? = some d) : ((unl (ds.take j)).un d).eqv (unl (ds.take (j + 1))) := by
  induction ds generalizing j with
  | nil => simp at h
  | cons e r ih =>
    cases j with
    | zero =>
      simp at h; subst h
      simp [unl, DS.un, DS.no, DS.eqv]
    | succ j =>
      have := ih (by simpa using h)
      simp only [List.take_succ_cons, unl]
      constructor
      · show ((e.all ∨ (unl (r.take j)).all) ∨ d.all) ↔ (e.all ∨ (unl (r.take (j + 1))).all)
        rw [or_assoc]
        exact or_congr Iff.rfl this.1
      · intro hn s
        show ((e.mem s ∨ (unl (r.take j)).mem s) ∨ d.mem s) ↔ (e.mem s ∨ (unl (r.take (j + 1))).mem s)
        rw [or_assoc]
        exact or_congr Iff.rfl (this.2 (fun q => hn (q.elim (fun z => .inl (.inr z)) .inr)) s)
theorem dems_take (n : Ned) (l : List X) (j : Nat) : dems n (l.take j) = (dems n l).take j := by
  induction l generalizing j with
  | nil => simp [dems]
  | cons y r ih =>
    cases j with
    | zero => rfl
    | succ j => simp only [List.take_succ_cons, dems, ih]

set_option maxHeartbeats 8000000 in
set_option maxRecDepth 100000 in
/-- each -/
theorem each_core {w : World} {D : Nat → Prop} {vN : Value} {nl : Ned} {av : Option Addr} {l : List X} {cap : Nat} (H : DkAt w D vN nl av l) (hl : l.length ≤ 1000000) (w' : World) (hw : Grew w w') :
    Calls Try.prog 74 #[.agg #[vN], .slice av l.length cap] w' (DmPost w' (unl (dems nl l))) := by
  have HH := hid H
  have HW := hid hw
  have hno := none_d ((w'.alloc (.cells #[vN] 85)).alloc (.cells #[.map none, .bool false] 81))
  clear H hw
  go_enter Try.func74, Try.ntmps74
  go_upto_region 2 with (go_at_call 73; (with_reducible refine hno.mono ?_); rintro e w4 ⟨v4, rfl, hsd, hg4⟩; clear hno; obtain ⟨b4, A4, rfl⟩ := hsd.shape)
  obtain ⟨W5, hW5⟩ : ∃ q : World, q = w4.alloc (.cells #[.map (some b4), .bool A4] 81) := ⟨_, rfl⟩
  have g45 : Grew w4 W5 := by rw [hW5]; exact (Fr.refl _ _).alloc _
  have ho5 : W5.heap[w4.heap.size]? = some (.cells #[.map (some b4), .bool A4] 81 (0, 0)) := by rw [hW5]; exact heap_alloc_new w4 _
  have hs5 : W5.heap.size = w4.heap.size + 1 := by rw [hW5]; simp
  have hnb := (hg4.trans g45 (fun _ _ f => f)).get (((Fr.refl (fun _ => False) (w'.alloc (.cells #[vN] 85))).alloc (.cells #[.map none, .bool false] 81)).get (heap_alloc_new w' _) (fun f => f)) (fun f => f)
  have hrb := (hg4.trans g45 (fun _ _ f => f)).get (heap_a2 w' (.cells #[vN] 85) (.cells #[.map none, .bool false] 81)) (fun f => f)
  have gw5 : Grew w' W5 := (((Fr.refl (fun _ => False) w').alloc (.cells #[vN] 85)).alloc (.cells #[.map none, .bool false] 81)).trans (hg4.trans g45 (fun _ _ f => f)) (fun _ _ f => f)
  have hs4 := hg4.size
  have hl4 := hsd.lt
  have hsz4 : w'.heap.size + 2 ≤ w4.heap.size := by simpa using hs4
  have HNB := hid hnb
  have HRB := hid hrb
  have HO5 := hid ho5
  have HG5 := hid gw5
  have HS5 := hid hs5
  have HSZ4 := hid hsz4
  have HSD := hid ((hsd.grew g45).mono (show w'.heap.size ≤ _ by simp; omega))
  have HL4 := hid hl4.2
  rw [← hW5]
  clear hW5 g45 ho5 hs5 hnb hrb gw5 hs4 hl4 hsd hg4 hsz4
  go_wp2
  go_loopw [11] (fun a wr => ∃ (j b : Nat) (A : Bool), j ≤ l.length ∧ a = .int .i64 j ∧ wr.heap[w4.heap.size]? = some (.cells #[.map (some b), .bool A] 81 (0, 0)) ∧ SD wr w'.heap.size (.agg #[.map (some b), .bool A]) (unl (dems nl (l.take j))) ∧ b ≠ w4.heap.size ∧ Fr (fun c => c = w4.heap.size) W5 wr) (fun i _ => l.length - (intOf i).toNat)
  case atStart => exact ⟨0, b4, A4, Nat.zero_le _, rfl, HO5.out, HSD.out, by have := HL4.out; omega, Fr.refl _ _⟩
  case round =>
    obtain ⟨j, b, A, hj, rfl, ho, hsd, hbn, hfr⟩ := hrel
    have hs5 := HS5.out
    have hsz4 := HSZ4.out
    have HGW := hid (show Grew w' wr from HG5.out.trans hfr (fun c hc e => by omega))
    have HFR := hid hfr
    have HSDr := hid hsd
    by_cases hlt : j < l.length
    · obtain ⟨x, hx⟩ := at_of_lt hlt
      obtain ⟨g, o, rfl, hel⟩ := HH.out (fun e => by rw [e] at hlt; simp at hlt)
      obtain ⟨an, cn, aa, ca, he, hc⟩ := hel j x hx
      have hg2 := HW.out.trans HGW.out (fun _ _ f => f)
      have c0 := hg2.cell he.c0 (fun f => f)
      have c1 := hg2.cell he.c1 (fun f => f)
      have c2 := hg2.cell he.c2 (fun f => f)
      have c3 := hg2.cell he.c3 (fun f => f)
      have hUT := unl_take (dems_get nl hx)
      rw [← dems_take, ← dems_take] at hUT
      have HUT := hid hUT
      obtain ⟨W7, hW7⟩ : ∃ q : World, q = wr.alloc (.cells #[Kv x.kind, St x.text, .slice an x.names.length cn, .slice aa x.parts.length ca] 28) := ⟨_, rfl⟩
      have g7 : Grew wr W7 := by rw [hW7]; exact (Fr.refl _ _).alloc _
      have hb7 : W7.heap[wr.heap.size]? = some (.cells #[Kv x.kind, St x.text, .slice an x.names.length cn, .slice aa x.parts.length ca] 28 (0, 0)) := by rw [hW7]; exact heap_alloc_new wr _
      have HC := hid (And.intro (cell_of_get hb7 0) (And.intro (cell_of_get hb7 1) (And.intro (cell_of_get hb7 2) (cell_of_get hb7 3))))
      have HO7 := hid (g7.get ho (fun f => f))
      have HO := hid (And.intro (cell_of_get HO7.out 0) (cell_of_get HO7.out 1))
      have HN0 := hid (cell_of_get (g7.get (hfr.get HNB.out (by omega)) (fun f => f)) 0)
      have HOUT := hid (hsd.grew g7)
      have HDX := hid (fun (W' : World) (k : Grew W7 W') => hc W' (hg2.trans (g7.trans k (fun _ _ f => f)) (fun _ _ f => f)))
      have HG7 := hid g7
      have HBN := hid hbn
      clear hel he hc hg2 hUT hx ho hsd hbn hfr g7 hb7 hs5 hsz4
      go_upto_region 5 with (fail)
      rw [← hW7]
      clear hW7 c0 c1 c2 c3
      refine Rg.wp_region_facts 5 Grew [(15, Rg.Ex (.agg #[.map (some b), .bool A])), (16, Rg.Ex (.agg #[vN])), (17, Rg.Ex (.agg #[Kv x.kind, St x.text, .slice an x.names.length cn, .slice aa x.parts.length ca])), (18, FS8 W7.heap.size (dem nl x)), (19, FS8 W7.heap.size ((unl (dems nl (l.take j))).un (dem nl x)))] (by kernel_rfl) (by kernel_rfl) (by rfl) (by rfl)
        (fun a => Fr.refl _ a) (fun a b c h k => h.trans k (fun _ _ f => f)) (Fr.refl _ _).drew
        (Rg.Stays.all ⟨Rg.Ex.stays _, Rg.Ex.stays _, Rg.Ex.stays _, FS8.stays _ _, FS8.stays _ _, trivial⟩) ?_ ?_
      · go_light
        refine Rg.OpGoals.cons (Rg.OpGoal.plain rfl ?_) (Rg.OpGoals.cons (Rg.OpGoal.plain rfl ?_) (Rg.OpGoals.cons (Rg.OpGoal.plain rfl ?_) (Rg.OpGoals.cons (Rg.OpGoal.plain rfl ?_) (Rg.OpGoals.cons (Rg.OpGoal.plain rfl ?_) Rg.OpGoals.none))))
        all_goals (intro a' w' hS hR; simp [Rg.Rd, Op.operands, Call.operands, Rg.Fk, Rg.Ex] at hR)
        all_goals (have o0' := hS.cell HO.out.1 (fun f => f))
        all_goals (have o1' := hS.cell HO.out.2 (fun f => f))
        all_goals (have n0' := hS.cell HN0.out (fun f => f))
        all_goals (have c0' := hS.cell HC.out.1 (fun f => f))
        all_goals (have c1' := hS.cell HC.out.2.1 (fun f => f))
        all_goals (have c2' := hS.cell HC.out.2.2.1 (fun f => f))
        all_goals (have c3' := hS.cell HC.out.2.2.2 (fun f => f))
        all_goals try (simp [Rg.Yields, execOp, Act.eval, hR, o0', o1', n0', c0', c1', c2', c3', go_sem, Rg.Fk, Rg.Ex, Fr.refl]; done)
        · simp [Rg.Yields, Act.eval, hR, go_sem, Rg.Fk, Rg.Ex]
          refine (HDX.out _ hS).mono ?_
          rintro e w2 ⟨r, rfl, h1, h2⟩
          exact ⟨r, rfl, h1.mono hS.size, h2⟩
        · obtain ⟨e1, h2⟩ := hR
          obtain ⟨b2, A2, e2⟩ := SD.shape h2
          have h2' : SD w' _ _ _ := h2
          rw [e2] at h2'
          simp [Rg.Yields, Act.eval, e1, e2, go_sem, Rg.Fk, Rg.Ex]
          refine (together_d (HOUT.out.grew hS) h2').mono ?_
          rintro e w2 ⟨r, rfl, h3, h4⟩
          exact ⟨r, rfl, h3.mono hS.size, h4⟩
      · intro w5 hS
        rintro _ rfl _ rfl _ rfl v18 h18 v19 h19
        refine Rg.Then.nil ?_
        clear h18
        obtain ⟨b', A2, rfl⟩ := SD.shape h19
        have h19' : SD w5 W7.heap.size _ _ := h19
        have hq := hS.get HO7.out (fun f => f)
        obtain ⟨k0, k1⟩ := And.intro (cell_of_get hq 0) (cell_of_get hq 1)
        obtain ⟨f0, f1⟩ := And.intro (frozen_of_get hq 0) (frozen_of_get hq 1)
        have hset := set2_fr w5 w4.heap.size (.map (some b')) (.bool A2)
        have HQ6 := hid (set2_heap hq (.map (some b')) (.bool A2))
        have hl := h19'.lt
        have hs7 := HG7.out.size
        have hsr := HFR.out.size
        have hs5 := HS5.out
        have hsz4 := HSZ4.out
        have HNE := hid (show b' ≠ w4.heap.size by omega)
        have HSD6 := hid (((h19'.as HUT.out).mono (show w'.heap.size ≤ W7.heap.size by omega)).keptn hset (fun b A e => by have := agg_inj e; subst this; exact HNE.out))
        have HFR6 := hid ((HFR.out.trans (Grew.any (HG7.out.trans hS (fun _ _ f => f))) (fun _ _ e => e)).trans hset (fun _ _ e => e))
        clear h19 h19' hq hset hl hs7 hsr hs5 hsz4 hS
        go_wp2
        go_roundw
        case rel => exact ⟨j + 1, b', A2, by omega, by go_num, HQ6.out, HSD6.out, HNE.out, HFR6.out⟩
        case measure => simp [intOf]; omega
    · obtain rfl : j = l.length := by omega
      rw [List.take_length] at HSDr
      obtain ⟨o0, o1⟩ := And.intro (cell_of_get ho 0) (cell_of_get ho 1)
      have hr := hfr.get HRB.out (by omega)
      obtain ⟨r0, r1⟩ := And.intro (cell_of_get hr 0) (cell_of_get hr 1)
      obtain ⟨x0, x1⟩ := And.intro (frozen_of_get hr 0) (frozen_of_get hr 1)
      have HR := hid hr
      have hlb := hsd.lt
      have hb1 : b ≠ w'.heap.size + 1 := fun e => by
        obtain ⟨A', S, ⟨c, e', -, ⟨g, ⟨es, ck, h1, -⟩, -⟩, -⟩, -⟩ := hsd
        have := agg_inj e'
        subst this
        rw [e, hr] at h1; cases h1
      have HB1 := hid hb1
      clear ho hsd hfr hr hs5 hsz4 hb1 hlb
      go_wp2
      have hf2 := set2_fr wr (w'.heap.size + 1) (.map (some b)) (.bool A)
      exact bodyPost_ret (v := .agg #[.map (some b), .bool A]) (res81 Try.results74 _ _ (w'.heap.size + 1) rfl (set2_heap HR.out _ _)) rfl ⟨_, rfl, HSDr.out.keptn hf2 (fun c A' e => by have := agg_inj e; subst this; exact HB1.out), HGW.out.trans hf2 (fun c hc e => by omega)⟩
end Go.Proofs.Ytddcfnjmppijjaa

/-! strict's app. -/
namespace Go.Proofs.Ytddcfnjmppijjaa
open Go.RowKit

/-- a row of truths -/
def FBo (B : Nat) (l : List Bool) (v : Value) (w : World) : Prop := Bo w (fun k => B ≤ k) v l
theorem FBo.stays (B : Nat) (l : List Bool) (v : Value) (w w' : World) (h : Grew w w') (k : FBo B l v w) : FBo B l v w' := Bo.grew k h
theorem Bo.mono {w : World} {D E : Nat → Prop} {v : Value} {l : List Bool} (h : Bo w D v l) (hE : ∀ b, b < w.heap.size → E b → D b) : Bo w E v l := by
  obtain ⟨ad, cap, h1, h2, h3, h4⟩ := h
  refine ⟨ad, cap, h1, h2, h3, ?_⟩
  rcases h4 with h4 | ⟨g, o, h5, h6, h7⟩
  · exact .inl h4
  · by_cases hn : l = []
    · exact .inl hn
    · have hp : 0 < l.length := (by cases l <;> simp_all)
      exact .inr ⟨g, o, h5, fun e => h6 (hE _ (World.block_lt_of_cell? w _ (h7 0 _ (List.getElem?_eq_getElem hp))) e), h7⟩
theorem Nd.mono {w : World} {D E : Nat → Prop} {v : Value} {l : Ned} (h : Nd w D v l) (hE : ∀ b, b < w.heap.size → E b → D b) : Nd w E v l := by
  obtain ⟨ad, cap, h1, h2, h3, h4⟩ := h
  refine ⟨ad, cap, h1, h2, h3, ?_⟩
  rcases h4 with h4 | ⟨g, o, h5, h6, h7⟩
  · exact .inl h4
  · by_cases hn : l = []
    · exact .inl hn
    · have hp : 0 < l.length := (by cases l <;> simp_all)
      refine .inr ⟨g, o, h5, fun e => h6 (hE _ (World.block_lt_of_cell? w _ (h7 0 _ (List.getElem?_eq_getElem hp)).1) e), fun i n hi => ?_⟩
      obtain ⟨k1, a, c, k2, k3⟩ := h7 i n hi
      exact ⟨k1, a, c, k2, k3.mono hE⟩

theorem pick_true {bs : List Bool} {ds : List DS} {j : Nat} {d : DS} (hb : bs[j]? = some true) (hd : ds[j]? = some d) : ((unl (pick (bs.take j) ds)).un d).eqv (unl (pick (bs.take (j + 1)) ds)) := by
  induction bs generalizing ds j with
  | nil => simp at hb
  | cons b r ih =>
    cases ds with
    | nil => simp at hd
    | cons e s =>
      cases j with
      | zero =>
        simp at hb hd; subst hb; subst hd
        simp [unl, pick, DS.un, DS.no, DS.eqv]
      | succ j =>
        have := ih (ds := s) (by simpa using hb) (by simpa using hd)
        cases b
        · simpa only [List.take_succ_cons, pick] using this
        · simp only [List.take_succ_cons, pick, unl]
          constructor
          · show ((e.all ∨ (unl (pick (r.take j) s)).all) ∨ d.all) ↔ (e.all ∨ (unl (pick (r.take (j + 1)) s)).all)
            rw [or_assoc]
            exact or_congr Iff.rfl this.1
          · intro hn q
            show ((e.mem q ∨ (unl (pick (r.take j) s)).mem q) ∨ d.mem q) ↔ (e.mem q ∨ (unl (pick (r.take (j + 1)) s)).mem q)
            rw [or_assoc]
            exact or_congr Iff.rfl (this.2 (fun z => hn (z.elim (fun y => .inl (.inr y)) .inr)) q)
theorem pick_false {bs : List Bool} {ds : List DS} {j : Nat} (hb : bs[j]? = some false) : pick (bs.take (j + 1)) ds = pick (bs.take j) ds := by
  induction bs generalizing ds j with
  | nil => simp at hb
  | cons b r ih =>
    cases ds with
    | nil => cases b <;> cases j <;> simp [pick]
    | cons e s =>
      cases j with
      | zero => simp at hb; subst hb; simp [pick]
      | succ j =>
        have := ih (ds := s) (j := j) (by simpa using hb)
        cases b
        · simpa only [List.take_succ_cons, pick] using this
        · simp only [List.take_succ_cons, pick, this]
theorem un_un {d p e q : DS} (h : (p.un e).eqv q) : ((d.un p).un e).eqv (d.un q) := by
  constructor
  · show ((d.all ∨ p.all) ∨ e.all) ↔ (d.all ∨ q.all)
    rw [or_assoc]
    exact or_congr Iff.rfl h.1
  · intro hn s
    show ((d.mem s ∨ p.mem s) ∨ e.mem s) ↔ (d.mem s ∨ q.mem s)
    rw [or_assoc]
    exact or_congr Iff.rfl (h.2 (fun z => hn (z.elim (fun y => .inl (.inr y)) .inr)) s)

set_option maxHeartbeats 8000000 in
set_option maxRecDepth 100000 in
/-- app -/
theorem app_core {w0 : World} {D : Nat → Prop} {vN : Value} {nl : Ned} {av : Option Addr} {x0 : X} {r : List X} {cap : Nat} (H : DkAt w0 D vN nl av (x0 :: r)) (_hl : (x0 :: r).length ≤ 1000000) (hnd : Nd w0 (fun _ => False) vN nl) (w : World) (hw : Grew w0 w) (k : Int) (t : Str) (vn : Value) :
    Calls Try.prog 71 #[.agg #[vN], .agg #[Kv k, St t, vn, .slice av (r.length + 1) cap]] w (DmPost w (if (ofs nl x0.kind x0.text).length ≤ r.length then (dem nl x0).un (unl (pick (ofs nl x0.kind x0.text) (dems nl r))) else dem nl x0)) := by
  obtain ⟨dR, hdR⟩ : ∃ d, d = (if (ofs nl x0.kind x0.text).length ≤ r.length then (dem nl x0).un (unl (pick (ofs nl x0.kind x0.text) (dems nl r))) else dem nl x0) := ⟨_, rfl⟩
  rw [← hdR]
  have HDR := hid hdR
  clear hdR
  obtain ⟨g, o, rfl, hel⟩ := H (by simp)
  obtain ⟨W3, hW3⟩ : ∃ q : World, q = ((w.alloc (.cells #[vN] 85)).alloc (.cells #[Kv k, St t, vn, .slice (some ⟨g, o, none⟩) (r.length + 1) cap] 28)).alloc (.cells #[.map none, .bool false] 81) := ⟨_, rfl⟩
  have g3 : Grew w W3 := by rw [hW3]; exact (((Fr.refl _ _).alloc _).alloc _).alloc _
  have hs3 : W3.heap.size = w.heap.size + 3 := by rw [hW3]; simp
  have hbn : W3.heap[w.heap.size]? = some (.cells #[vN] 85 (0, 0)) := by rw [hW3]; exact (((Fr.refl (fun _ => False) _).alloc _).alloc _).get (heap_alloc_new w _) (fun f => f)
  have hbe : W3.heap[w.heap.size + 1]? = some (.cells #[Kv k, St t, vn, .slice (some ⟨g, o, none⟩) (r.length + 1) cap] 28 (0, 0)) := by rw [hW3]; exact ((Fr.refl (fun _ => False) _).alloc _).get (heap_a2 w _ _) (fun f => f)
  have hbr : W3.heap[w.heap.size + 1 + 1]? = some (.cells #[.map none, .bool false] 81 (0, 0)) := by
    rw [hW3]
    have := heap_alloc_new ((w.alloc (.cells #[vN] 85)).alloc (.cells #[Kv k, St t, vn, .slice (some ⟨g, o, none⟩) (r.length + 1) cap] 28)) (.cells #[.map none, .bool false] 81)
    simpa using this
  obtain ⟨an0, cn0, aa0, ca0, he0, hc0⟩ := hel 0 x0 rfl
  rw [Nat.zero_mul, Nat.add_zero] at he0
  have gw3 := hw.trans g3 (fun _ _ f => f)
  have hw0 := hid hw.size
  have HN0 := hid (cell_of_get hbn 0)
  have HE3 := hid (show W3.cell? ⟨w.heap.size + 1, 3, none⟩ = some (.slice (some ⟨g, o, none⟩) (r.length + 1) cap) from cell_of_get hbe 3)
  have HC0 := hid (And.intro (gw3.cell he0.c0 (fun f => f)) (And.intro (gw3.cell he0.c1 (fun f => f)) (And.intro (gw3.cell he0.c2 (fun f => f)) (gw3.cell he0.c3 (fun f => f)))))
  have HD0 := hid (fun (W' : World) (k : Grew W3 W') => hc0 W' (gw3.trans k (fun _ _ f => f)))
  have HBN := hid hbn
  have HBE := hid hbe
  have HBR := hid hbr
  have HEL := hid hel
  have HEE := hid he0
  have HND0 := hid (hnd.mono (E := fun k => w0.heap.size ≤ k) (fun b hb e => by omega))
  have HGW3 := hid gw3
  have HG3 := hid g3
  have HS3 := hid hs3
  clear H hel he0 hc0 hbn hbe hbr hnd gw3 g3 hs3 hw
  go_enter Try.func71, Try.ntmps71
  go_upto_region 1 with (fail)
  rw [← hW3]
  clear hW3
  refine Rg.wp_region_facts 7 Grew [(9, Rg.Ex (.agg #[vN])), (10, Rg.Ex (.pointer (some ⟨w.heap.size + 1, 3, none⟩))), (11, Rg.Ex (.slice (some ⟨g, o, none⟩) (r.length + 1) cap)), (12, Rg.Ex (.pointer (some ⟨g, o, none⟩))), (13, Rg.Ex (.agg #[Kv x0.kind, St x0.text, .slice an0 x0.names.length cn0, .slice aa0 x0.parts.length ca0])), (14, FS8 W3.heap.size (dem nl x0)), (5, F5 W3.heap.size)] (by kernel_rfl) (by kernel_rfl) (by rfl) (by rfl)
    (fun a => Fr.refl _ a) (fun a b c h k => h.trans k (fun _ _ f => f)) (Fr.refl _ _).drew
    (Rg.Stays.all ⟨Rg.Ex.stays _, Rg.Ex.stays _, Rg.Ex.stays _, Rg.Ex.stays _, Rg.Ex.stays _, FS8.stays _ _, F5.stays _, trivial⟩) ?_ ?_
  · go_light
    refine Rg.OpGoals.cons (Rg.OpGoal.plain rfl ?_) (Rg.OpGoals.cons (Rg.OpGoal.plain rfl ?_) (Rg.OpGoals.cons (Rg.OpGoal.plain rfl ?_) (Rg.OpGoals.cons (Rg.OpGoal.plain rfl ?_) (Rg.OpGoals.cons (Rg.OpGoal.plain rfl ?_) (Rg.OpGoals.cons (Rg.OpGoal.plain rfl ?_) (Rg.OpGoals.cons (Rg.OpGoal.plain rfl ?_) Rg.OpGoals.none))))))
    all_goals (intro a' w' hS hR; simp [Rg.Rd, Op.operands, Call.operands, Rg.Fk, Rg.Ex] at hR)
    all_goals (have n0' := hS.cell HN0.out (fun f => f))
    all_goals (have e3' := hS.cell HE3.out (fun f => f))
    all_goals (have c0' := hS.cell HC0.out.1 (fun f => f))
    all_goals (have c1' := hS.cell HC0.out.2.1 (fun f => f))
    all_goals (have c2' := hS.cell HC0.out.2.2.1 (fun f => f))
    all_goals (have c3' := hS.cell HC0.out.2.2.2 (fun f => f))
    all_goals try (simp [Rg.Yields, execOp, Act.eval, hR, n0', e3', c0', c1', c2', c3', go_sem, Rg.Fk, Rg.Ex, Fr.refl]; done)
    · simp [Rg.Yields, Act.eval, hR, go_sem, Rg.Fk, Rg.Ex]
      refine (HD0.out _ hS).mono ?_
      rintro e w2 ⟨r, rfl, h1, h2⟩
      exact ⟨r, rfl, h1.mono hS.size, h2⟩
    · simp [Rg.Yields, execOp, go_sem, Rg.Fk, Rg.Ex]
      exact ⟨⟨_, hS.size, rfl, heap_alloc_new w' _⟩, (Fr.refl _ _).alloc _⟩
  · intro w5 hS
    rintro _ rfl _ rfl _ rfl _ rfl _ rfl v14 h14 v5 h5
    refine Rg.Then.nil ?_
    obtain ⟨b0, A0, rfl⟩ := SD.shape h14
    have h14' : SD w5 W3.heap.size _ _ := h14
    obtain ⟨g5, hg5, rfl, hq⟩ := h5
    obtain ⟨k0, k1⟩ := And.intro (cell_of_get hq 0) (cell_of_get hq 1)
    obtain ⟨f0, f1⟩ := And.intro (frozen_of_get hq 0) (frozen_of_get hq 1)
    obtain ⟨W6, hW6⟩ : ∃ z : World, z = set2 w5 g5 (.map (some b0)) (.bool A0) := ⟨_, rfl⟩
    have hset : Fr (fun c => c = g5) w5 W6 := by rw [hW6]; exact set2_fr _ _ _ _
    have hq6 : W6.heap[g5]? = some (.cells #[.map (some b0), .bool A0] 81 (0, 0)) := by rw [hW6]; exact set2_heap hq _ _
    have hne0 : b0 ≠ g5 := fun e => by
      obtain ⟨A', S, ⟨c, e', -, ⟨q, ⟨es, ck, h1, -⟩, -⟩, -⟩, -⟩ := h14'
      have := agg_inj e'
      subst this
      rw [e, hq] at h1; cases h1
    have hs3 := HS3.out
    have g36 : Fr (fun c => c = g5) W3 W6 := (Grew.any hS).trans hset (fun _ _ e => e)
    have gw6 : Grew w W6 := HG3.out.trans g36 (fun c hc e => by omega)
    have HSD6 := hid ((h14'.mono (show w.heap.size ≤ W3.heap.size by omega)).keptn hset (fun b A e => by have := agg_inj e; subst this; exact hne0))
    have gw06 : Grew w0 W6 := HGW3.out.trans g36 (fun c hc e => by
      have h1 := HG3.out.size
      have h2 := HGW3.out.size
      omega)
    have HN6 := hid (g36.cell HN0.out (by show ¬ (w.heap.size = g5); omega))
    have HE6 := hid (g36.cell HE3.out (by show ¬ (w.heap.size + 1 = g5); omega))
    have HG06 := hid gw06
    have HND := hid (HND0.out.grew gw06)
    have HC6 := hid (And.intro (gw06.cell HEE.out.c0 (fun f => f)) (And.intro (gw06.cell HEE.out.c1 (fun f => f)) (And.intro (gw06.cell HEE.out.c2 (fun f => f)) (gw06.cell HEE.out.c3 (fun f => f)))))
    have HQ6 := hid hq6
    have HR6 := hid (g36.get HBR.out (by omega))
    have HG6 := hid gw6
    have HNE0 := hid hne0
    have HG5 := hid (show w.heap.size + 3 ≤ g5 by omega)
    have HL5 := hid (lt_of_get hq6)
    clear h14 h14' hq hset hq6 hne0 hs3 g36 gw6 gw06 hS hg5
    go_upto_region 2 with (fail)
    dsimp only [set2] at hW6
    rw [← hW6]
    clear hW6 k0 k1 f0 f1
    refine Rg.wp_region_facts 7 Grew [(15, Rg.Ex (.pointer (some ⟨w.heap.size, 0, none⟩))), (16, Rg.Ex (.agg #[vN])), (17, Rg.Ex (.pointer (some ⟨w.heap.size + 1, 3, none⟩))), (18, Rg.Ex (.slice (some ⟨g, o, none⟩) (r.length + 1) cap)), (19, Rg.Ex (.pointer (some ⟨g, o, none⟩))), (20, Rg.Ex (.agg #[Kv x0.kind, St x0.text, .slice an0 x0.names.length cn0, .slice aa0 x0.parts.length ca0])), (21, FBo w0.heap.size (ofs nl x0.kind x0.text))] (by kernel_rfl) (by kernel_rfl) (by rfl) (by rfl)
      (fun a => Fr.refl _ a) (fun a b c h k => h.trans k (fun _ _ f => f)) (Fr.refl _ _).drew
      (Rg.Stays.all ⟨Rg.Ex.stays _, Rg.Ex.stays _, Rg.Ex.stays _, Rg.Ex.stays _, Rg.Ex.stays _, Rg.Ex.stays _, FBo.stays _ _, trivial⟩) ?_ ?_
    · go_light
      refine Rg.OpGoals.cons (Rg.OpGoal.plain rfl ?_) (Rg.OpGoals.cons (Rg.OpGoal.plain rfl ?_) (Rg.OpGoals.cons (Rg.OpGoal.plain rfl ?_) (Rg.OpGoals.cons (Rg.OpGoal.plain rfl ?_) (Rg.OpGoals.cons (Rg.OpGoal.plain rfl ?_) (Rg.OpGoals.cons (Rg.OpGoal.plain rfl ?_) (Rg.OpGoals.cons (Rg.OpGoal.plain rfl ?_) Rg.OpGoals.none))))))
      all_goals (intro a' w' hS hR; simp [Rg.Rd, Op.operands, Call.operands, Rg.Fk, Rg.Ex] at hR)
      all_goals (have n0' := hS.cell HN6.out (fun f => f))
      all_goals (have e3' := hS.cell HE6.out (fun f => f))
      all_goals (have c0' := hS.cell HC6.out.1 (fun f => f))
      all_goals (have c1' := hS.cell HC6.out.2.1 (fun f => f))
      all_goals (have c2' := hS.cell HC6.out.2.2.1 (fun f => f))
      all_goals (have c3' := hS.cell HC6.out.2.2.2 (fun f => f))
      all_goals try (simp [Rg.Yields, execOp, Act.eval, hR, n0', e3', c0', c1', c2', c3', go_sem, Rg.Fk, Rg.Ex, Fr.refl]; done)
      · simp [Rg.Yields, Act.eval, hR, go_sem, Rg.Fk, Rg.Ex]
        refine (of_any (HND.out.grew hS) x0.kind x0.text _ _).mono ?_
        rintro e w2 ⟨v, rfl, h1, h2⟩
        exact ⟨v, rfl, h1, h2⟩
    · intro w7 hS
      rintro _ rfl _ rfl _ rfl _ rfl _ rfl _ rfl v21 h21
      refine Rg.Then.nil ?_
      obtain ⟨os, hos⟩ : ∃ l, ofs nl x0.kind x0.text = l := ⟨_, rfl⟩
      have HDR2 := HDR
      rw [hos] at h21 HDR2
      clear hos HDR
      have h21' : Bo w7 (fun k => w0.heap.size ≤ k) v21 os := h21
      obtain ⟨aO, cO, rfl, hO1, hO2⟩ := h21'.shape
      replace hO2 : cO ≤ 9223372036854775807 := hO2
      have HBO := hid h21'
      have hq7 := hS.get HQ6.out (fun f => f)
      have HQ7 := hid hq7
      have HR7 := hid (hS.get HR6.out (fun f => f))
      have HE7b := hid (hS.cell HE6.out (fun f => f))
      have HN7b := hid (hS.cell HN6.out (fun f => f))
      have HSD7 := hid (HSD6.out.grew hS)
      have HG7 := hid (HG6.out.trans hS (fun _ _ f => f))
      have HG07 := hid (HG06.out.trans hS (fun _ _ f => f))
      have HL7 := hid (lt_of_get hq7)
      have e3 := HE7b.out
      clear h21 h21' hS
      by_cases hle : os.length ≤ r.length
      · have HDE := hid (show dR = (dem nl x0).un (unl (pick os (dems nl r))) by rw [HDR2.out, if_pos hle])
        have hlt1 : ¬ ((r.length : Int) + 1 ≤ (os.length : Int)) := by omega
        have HLE := hid hle
        have HNE0' := hid (show b0 ≠ g5 from HNE0.out)
        clear hq7 HDR2 hle
        go_wp2
        clear e3
        go_loopw [31] (fun a wr => ∃ (j b : Nat) (A : Bool), j ≤ os.length ∧ a = .int .i64 j ∧ wr.heap[g5]? = some (.cells #[.map (some b), .bool A] 81 (0, 0)) ∧ SD wr w.heap.size (.agg #[.map (some b), .bool A]) ((dem nl x0).un (unl (pick (os.take j) (dems nl r)))) ∧ b ≠ g5 ∧ Fr (fun c => c = g5) w7 wr) (fun i _ => os.length - (intOf i).toNat)
        case atStart => exact ⟨0, b0, A0, Nat.zero_le _, rfl, HQ7.out, HSD7.out.as (by simp [pick, unl, DS.un, DS.no, DS.eqv]), HNE0'.out, Fr.refl _ _⟩
        case round =>
          obtain ⟨j, b, A, hj, rfl, ho, hsd, hbn, hfr⟩ := hrel
          have hg5 := HG5.out
          have hl7 := HL7.out
          have HGW := hid (show Grew w wr from HG7.out.trans hfr (fun c hc e => by omega))
          have hg0 : Grew w0 wr := HG07.out.trans hfr (fun c hc e => by
            have h1 := HGW3.out.size
            have h2 := HG3.out.size
            have h3 := HS3.out
            have h4 := hw0.out
            omega)
          have HFR := hid hfr
          have HSDr := hid hsd
          by_cases hlt : j < os.length
          · obtain ⟨bt, hbt⟩ := at_of_lt (l := os) hlt
            obtain ⟨_, _, e, -, -, h4⟩ := HBO.out
            simp only [Value.slice.injEq] at e
            obtain ⟨rfl, -, rfl⟩ := e
            obtain ⟨g2, o2, rfl, hD2, hb2⟩ := h4.resolve_left (fun e => by rw [e] at hlt; simp at hlt)
            have hg52 : w0.heap.size ≤ g5 := by
              have h1 := HG3.out.size
              have h4 := hw0.out
              omega
            have cb := hfr.cell (hb2 j bt hbt) (by show ¬ (g2 = g5); omega)
            cases bt
            · have hpf := pick_false (ds := dems nl r) hbt
              have HS' := hid (show SD wr w.heap.size (.agg #[.map (some b), .bool A]) ((dem nl x0).un (unl (pick (os.take (j + 1)) (dems nl r)))) by rw [hpf]; exact hsd)
              have HO := hid ho
              have HBN := hid hbn
              clear hpf hbt hb2 hD2 hg52 ho hsd hbn hfr hg0 hg5 hl7 h4
              go_wp2
              go_roundw
              case rel => exact ⟨j + 1, b, A, by omega, by go_num, HO.out, HS'.out, HBN.out, HFR.out⟩
              case measure => simp [intOf]; omega
            · have hjr : j < r.length := by have := HLE.out; omega
              obtain ⟨x, hx⟩ := at_of_lt (l := r) hjr
              obtain ⟨an, cn, aa, ca, he, hc⟩ := HEL.out (j + 1) x (by simpa using hx)
              obtain ⟨dP, hdP⟩ : ∃ d, d = (dem nl x0).un (unl (pick (os.take j) (dems nl r))) := ⟨_, rfl⟩
              rw [← hdP] at hsd
              have HUT := hid (show (dP.un (dem nl x)).eqv ((dem nl x0).un (unl (pick (os.take (j + 1)) (dems nl r)))) by rw [hdP]; exact un_un (pick_true hbt (dems_get nl hx)))
              have hj1 : (j : Int) < (r.length : Int) := by omega
              have hj2 : (j : Int) + 1 < (r.length : Int) + 1 := by omega
              have hj3 : (0 : Int) ≤ (j : Int) + 1 := by omega
              have HC := hid (And.intro (hg0.cell he.c0 (fun f => f)) (And.intro (hg0.cell he.c1 (fun f => f)) (And.intro (hg0.cell he.c2 (fun f => f)) (hg0.cell he.c3 (fun f => f)))))
              have HO7 := hid ho
              have HO := hid (And.intro (cell_of_get ho 0) (cell_of_get ho 1))
              have HN7 := hid (hfr.cell HN7b.out (by show ¬ (w.heap.size = g5); omega))
              have HE7 := hid (hfr.cell HE7b.out (by show ¬ (w.heap.size + 1 = g5); omega))
              have HOUT := hid hsd
              have HDX := hid (fun (W' : World) (k : Grew wr W') => hc W' (hg0.trans k (fun _ _ f => f)))
              have HLW := hid (show w.heap.size + 3 ≤ wr.heap.size by have := HGW.out.size; have := hfr.size; omega)
              have HL8 := hid (lt_of_get ho)
              clear HSDr hbt hb2 hD2 hg52 ho hsd hbn hfr hg0 hg5 hl7 he hc hx hdP h4
              go_wp2
              refine Rg.wp_region_facts 10 Grew [(37, Rg.Ex (.agg #[.map (some b), .bool A])), (38, Rg.Ex (.agg #[vN])), (39, Rg.Ex (.pointer (some ⟨w.heap.size + 1, 3, none⟩))), (40, Rg.Ex (.slice (some ⟨g, o, none⟩) (r.length + 1) cap)), (41, Rg.Ex (.int .i64 (j : Int))), (42, Rg.Ex (.int .i64 ((j + 1 : Nat) : Int))), (43, Rg.Ex (.pointer (some ⟨g, o + (j + 1) * 4, none⟩))), (44, Rg.Ex (.agg #[Kv x.kind, St x.text, .slice an x.names.length cn, .slice aa x.parts.length ca])), (45, FS8 wr.heap.size (dem nl x)), (46, FS8 wr.heap.size (dP.un (dem nl x)))] (by kernel_rfl) (by kernel_rfl) (by rfl) (by rfl)
                (fun a => Fr.refl _ a) (fun a b c h k => h.trans k (fun _ _ f => f)) (Fr.refl _ _).drew
                (Rg.Stays.all ⟨Rg.Ex.stays _, Rg.Ex.stays _, Rg.Ex.stays _, Rg.Ex.stays _, Rg.Ex.stays _, Rg.Ex.stays _, Rg.Ex.stays _, Rg.Ex.stays _, FS8.stays _ _, FS8.stays _ _, trivial⟩) ?_ ?_
              · go_light
                refine Rg.OpGoals.cons (Rg.OpGoal.plain rfl ?_) (Rg.OpGoals.cons (Rg.OpGoal.plain rfl ?_) (Rg.OpGoals.cons (Rg.OpGoal.plain rfl ?_) (Rg.OpGoals.cons (Rg.OpGoal.plain rfl ?_) (Rg.OpGoals.cons (Rg.OpGoal.plain rfl ?_) (Rg.OpGoals.cons (Rg.OpGoal.plain rfl ?_) (Rg.OpGoals.cons (Rg.OpGoal.plain rfl ?_) (Rg.OpGoals.cons (Rg.OpGoal.plain rfl ?_) (Rg.OpGoals.cons (Rg.OpGoal.plain rfl ?_) (Rg.OpGoals.cons (Rg.OpGoal.plain rfl ?_) Rg.OpGoals.none)))))))))
                all_goals (intro a' w' hS hR; simp [Rg.Rd, Op.operands, Call.operands, Rg.Fk, Rg.Ex] at hR)
                all_goals (have o0' := hS.cell HO.out.1 (fun f => f))
                all_goals (have o1' := hS.cell HO.out.2 (fun f => f))
                all_goals (have n0' := hS.cell HN7.out (fun f => f))
                all_goals (have e3' := hS.cell HE7.out (fun f => f))
                all_goals (have c0' := hS.cell HC.out.1 (fun f => f))
                all_goals (have c1' := hS.cell HC.out.2.1 (fun f => f))
                all_goals (have c2' := hS.cell HC.out.2.2.1 (fun f => f))
                all_goals (have c3' := hS.cell HC.out.2.2.2 (fun f => f))
                all_goals try (simp [Rg.Yields, execOp, Act.eval, hR, o0', o1', n0', e3', c0', c1', c2', c3', hj2, hj3, go_sem, Rg.Fk, Rg.Ex, Fr.refl]; done)
                · simp [Rg.Yields, execOp, Act.eval, hR, go_sem, Rg.Fk, Rg.Ex, Fr.refl]
                  rw [Int.add_comm]
                  exact IntWalk.i64_in _ (by omega)
                · simp [Rg.Yields, Act.eval, hR, go_sem, Rg.Fk, Rg.Ex]
                  refine (HDX.out _ hS).mono ?_
                  rintro e w2 ⟨r, rfl, h1, h2⟩
                  exact ⟨r, rfl, h1.mono hS.size, h2⟩
                · obtain ⟨e1, h2⟩ := hR
                  obtain ⟨b2, A2, e2⟩ := SD.shape h2
                  have h2' : SD w' _ _ _ := h2
                  rw [e2] at h2'
                  simp [Rg.Yields, Act.eval, e1, e2, go_sem, Rg.Fk, Rg.Ex]
                  refine (together_d (HOUT.out.grew hS) h2').mono ?_
                  rintro e w2 ⟨r, rfl, h3, h4⟩
                  exact ⟨r, rfl, h3.mono hS.size, h4⟩
              · intro w8 hS
                rintro _ rfl _ rfl _ rfl _ rfl _ rfl _ rfl _ rfl _ rfl v45 h45 v46 h46
                refine Rg.Then.nil ?_
                clear h45
                obtain ⟨b', A2, rfl⟩ := SD.shape h46
                have h46' : SD w8 wr.heap.size _ _ := h46
                have hq := hS.get HO7.out (fun f => f)
                obtain ⟨k0, k1⟩ := And.intro (cell_of_get hq 0) (cell_of_get hq 1)
                obtain ⟨f0, f1⟩ := And.intro (frozen_of_get hq 0) (frozen_of_get hq 1)
                have hset := set2_fr w8 g5 (.map (some b')) (.bool A2)
                have HQ8 := hid (set2_heap hq (.map (some b')) (.bool A2))
                have hl := h46'.lt
                have hl8 := HL8.out
                have hlw := HLW.out
                have HNE := hid (show b' ≠ g5 by omega)
                have HSD8 := hid (((h46'.as HUT.out).mono (show w.heap.size ≤ wr.heap.size by omega)).keptn hset (fun b A e => by have := agg_inj e; subst this; exact HNE.out))
                have HFR8 := hid ((HFR.out.trans (Grew.any hS) (fun _ _ e => e)).trans hset (fun _ _ e => e))
                clear h46 h46' hq hset hl hl8 hlw hS
                go_wp2
                go_roundw
                case rel => exact ⟨j + 1, b', A2, by omega, by go_num, HQ8.out, HSD8.out, HNE.out, HFR8.out⟩
                case measure => simp [intOf]; omega
          · obtain rfl : j = os.length := by omega
            rw [List.take_length] at HSDr
            obtain ⟨o0, o1⟩ := And.intro (cell_of_get ho 0) (cell_of_get ho 1)
            have hr := hfr.get HR7.out (by omega)
            obtain ⟨r0, r1⟩ := And.intro (cell_of_get hr 0) (cell_of_get hr 1)
            obtain ⟨x0', x1'⟩ := And.intro (frozen_of_get hr 0) (frozen_of_get hr 1)
            have HR := hid hr
            have HB1 := hid (show b ≠ w.heap.size + 1 + 1 from fun e => by
              obtain ⟨A', S, ⟨c, e', -, ⟨q, ⟨es, ck, h1, -⟩, -⟩, -⟩, -⟩ := hsd
              have := agg_inj e'
              subst this
              rw [e, hr] at h1; cases h1)
            clear ho hsd hfr hr hg0 hg5 hl7
            go_wp2
            have hf2 := set2_fr wr (w.heap.size + 1 + 1) (.map (some b)) (.bool A)
            exact bodyPost_ret (v := .agg #[.map (some b), .bool A]) (res81 Try.results71 _ _ (w.heap.size + 1 + 1) rfl (set2_heap HR.out _ _)) rfl ⟨_, rfl, by rw [HDE.out]; exact HSDr.out.keptn hf2 (fun c A' e => by have := agg_inj e; subst this; exact HB1.out), HGW.out.trans hf2 (fun c hc e => by omega)⟩
      · have HDE := hid (show dR = dem nl x0 by rw [HDR2.out, if_neg hle])
        clear HDR2
        have hge1 : (r.length : Int) + 1 ≤ (os.length : Int) := by omega
        obtain ⟨o0, o1⟩ := And.intro (cell_of_get hq7 0) (cell_of_get hq7 1)
        obtain ⟨r0, r1⟩ := And.intro (cell_of_get HR7.out 0) (cell_of_get HR7.out 1)
        obtain ⟨x0', x1'⟩ := And.intro (frozen_of_get HR7.out 0) (frozen_of_get HR7.out 1)
        have HB1 := hid (show b0 ≠ w.heap.size + 1 + 1 from fun e => by
          obtain ⟨A', S, ⟨c, e', -, ⟨q, ⟨es, ck, h1, -⟩, -⟩, -⟩, -⟩ := HSD7.out
          have := agg_inj e'
          subst this
          rw [e, HR7.out] at h1; cases h1)
        clear hq7
        go_wp2
        have hf2 := set2_fr w7 (w.heap.size + 1 + 1) (.map (some b0)) (.bool A0)
        exact bodyPost_ret (v := .agg #[.map (some b0), .bool A0]) (res81 Try.results71 _ _ (w.heap.size + 1 + 1) rfl (set2_heap HR7.out _ _)) rfl ⟨_, rfl, by rw [HDE.out]; exact HSD7.out.keptn hf2 (fun c A' e => by have := agg_inj e; subst this; exact HB1.out), HG7.out.trans hf2 (fun c hc e => by omega)⟩
end Go.Proofs.Ytddcfnjmppijjaa

/-! Of a let: what is gathered, step by step. -/
namespace Go.Proofs.Ytddcfnjmppijjaa
open Go.RowKit

/-- what has been gathered: from d0, over what names are bound to; which of these were taken in -/
structure LI (d0 : DS) (ps : List (Str × DS)) (sl : List Bool) (dO : DS) : Prop where
  len : sl.length = ps.length
  soundA : dO.all → d0.all ∨ ∃ n d, (n, d) ∈ ps ∧ Rch d0 ps n ∧ d.all
  sound : ¬ dO.all → ∀ s, dO.mem s → Rch d0 ps s
  baseA : d0.all → dO.all
  base : ¬ dO.all → ∀ s, d0.mem s → dO.mem s
  seen : ∀ (i : Nat) (n : Str) (d : DS), sl[i]? = some true → ps[i]? = some (n, d) → (d.all → dO.all) ∧ (¬ dO.all → ∀ s, d.mem s → dO.mem s)

theorem LI.init (d0 : DS) (ps : List (Str × DS)) : LI d0 ps (List.replicate ps.length false) d0 :=
  ⟨by simp, .inl, fun _ s h => .base s h, id, fun _ _ h => h, fun i n d h => by
    rw [List.getElem?_replicate] at h
    split at h <;> cases h⟩
theorem LI.step {d0 : DS} {ps : List (Str × DS)} {sl : List Bool} {dO : DS} (h : LI d0 ps sl dO) {i : Nat} {n : Str} {d : DS} (hp : ps[i]? = some (n, d)) (hn : dO.mem n) (hA : ¬ dO.all) : LI d0 ps (sl.set i true) (dO.un d) := by
  have hr := h.sound hA n hn
  have hm := List.mem_of_getElem? hp
  refine ⟨by rw [List.length_set]; exact h.len, ?_, ?_, fun q => .inl (h.baseA q), fun _ s q => .inl (h.base hA s q), ?_⟩
  · rintro (q | q)
    · exact absurd q hA
    · exact .inr ⟨n, d, hm, hr, q⟩
  · rintro - s (q | q)
    · exact h.sound hA s q
    · exact .step n s d hm hr q
  · intro j m e hj hq
    by_cases hij : i = j
    · subst hij
      rw [hp] at hq
      cases hq
      exact ⟨.inr, fun _ s q => .inr q⟩
    · rw [List.getElem?_set_ne hij] at hj
      obtain ⟨k1, k2⟩ := h.seen j m e hj hq
      exact ⟨fun q => .inl (k1 q), fun q s z => .inl (k2 (fun y => q (.inl y)) s z)⟩
theorem LI.as {d0 : DS} {ps : List (Str × DS)} {sl : List Bool} {dO dO' : DS} (h : LI d0 ps sl dO) (k : dO.eqv dO') : LI d0 ps sl dO' := by
  have hn : ¬ dO'.all → ¬ dO.all := fun q z => q (k.1.1 z)
  exact ⟨h.len, fun q => h.soundA (k.1.2 q), fun q s z => h.sound (hn q) s ((k.2 (hn q) s).2 z), fun q => k.1.1 (h.baseA q), fun q s z => (k.2 (hn q) s).1 (h.base (hn q) s z), fun i n d h1 h2 =>
    ⟨fun q => k.1.1 ((h.seen i n d h1 h2).1 q), fun q s z => (k.2 (hn q) s).1 ((h.seen i n d h1 h2).2 (hn q) s z)⟩⟩
/-- nothing more is to be taken in -/
theorem LI.done {d0 : DS} {ps : List (Str × DS)} {sl : List Bool} {dO : DS} (h : LI d0 ps sl dO) (hc : ¬ dO.all → ∀ (i : Nat) (n : Str) (d : DS), ps[i]? = some (n, d) → dO.mem n → sl[i]? = some true) :
    (dO.all ↔ (letD d0 ps).all) ∧ (¬ dO.all → ∀ s, dO.mem s ↔ Rch d0 ps s) := by
  have hin : ¬ dO.all → ∀ s, Rch d0 ps s → dO.mem s := by
    intro hA s hs
    induction hs with
    | base s q => exact h.base hA s q
    | step n s d hp _ q ih =>
      obtain ⟨i, hi⟩ := List.mem_iff_getElem?.1 hp
      exact (h.seen i n d (hc hA i n d hi ih) hi).2 hA s q
  refine ⟨⟨h.soundA, ?_⟩, fun hA s => ⟨h.sound hA s, hin hA s⟩⟩
  rintro (q | ⟨n, d, hp, hr, q⟩)
  · exact h.baseA q
  · apply Classical.byContradiction
    intro hA
    obtain ⟨i, hi⟩ := List.mem_iff_getElem?.1 hp
    exact hA ((h.seen i n d (hc hA i n d hi (hin hA n hr)) hi).1 q)

/-- how many were not taken in -/
def left8 (sl : List Bool) : Nat := sl.count false
theorem left8_set {sl : List Bool} {i : Nat} (h : sl[i]? = some false) : left8 (sl.set i true) + 1 = left8 sl := by
  unfold left8
  induction sl generalizing i with
  | nil => simp at h
  | cons b r ih =>
    cases i with
    | zero => simp at h; subst h; simp
    | succ i =>
      have := ih (i := i) (by simpa using h)
      cases b <;> simp <;> omega
end Go.Proofs.Ytddcfnjmppijjaa

/-! A name struck out of a set; a row of truths of one's own. -/
namespace Go.Proofs.Ytddcfnjmppijjaa
open Go.RowKit Go.MapKept Go.ChangeMaps

theorem Mp.del {w : World} {b : Nat} {g : Str → Option Value} (h : Mp w b g) (s : Str) (ty : TypeId) :
    ∃ w', (Builtin.delete_ #[79, 9] ty #[.map (some b), .string ⟨s.toArray⟩]).run Try.prog w = .ok (.tuple #[]) w' ∧ Mp w' b (fun t => if t = s then none else g t) ∧ Fr (fun c => c = b) w w' := by
  obtain ⟨es, clock, hb, hs, hk, hg⟩ := h
  have hks : ∀ x ∈ es.toList, IsKey .string x.key := fun x hx => by obtain ⟨s, e, -⟩ := hk x hx; rw [e]; trivial
  have hset : ∀ o, Fr (fun c => c = b) w { w with heap := w.heap.setIfInBounds b o } := fun o => ⟨rfl, rfl, rfl, by simp, fun k _ hn => (heap_set hb).2 k hn⟩
  rcases findNow_spec (isKey_St s) es.toList 0 hks with ⟨h1, h2⟩ | ⟨j, x, h1, h2, h3⟩
  · refine ⟨{ w with heap := w.heap.setIfInBounds b (.map es clock) }, by simp [Builtin.delete_, run_underlying und79, MapKept.run_getObj_map hb, run_checkKey Try.u9 (isKey_St s), run_findKey Try.u9 h1, MapKept.run_setObj_map _ hb, Result.andThen], ?_, hset _⟩
    refine ⟨es, clock, (heap_set hb).1, hs, fun x hx => ?_, fun t v hv => ?_⟩
    · obtain ⟨t, e, hv⟩ := hk x hx
      have hne : ¬ t = s := fun q => h2 x hx (by rw [e, q])
      exact ⟨t, e, by simp [hne, hv]⟩
    · by_cases hts : t = s
      · simp [hts] at hv
      · simp [hts] at hv
        exact hg t v hv
  · refine ⟨{ w with heap := w.heap.setIfInBounds b (.map (es.eraseIdxIfInBounds j) clock) }, by simp [Builtin.delete_, run_underlying und79, MapKept.run_getObj_map hb, run_checkKey Try.u9 (isKey_St s), run_findKey Try.u9 h1, MapKept.run_setObj_map _ hb, Result.andThen], ?_, hset _⟩
    have hjl : j < es.size := by
      have := (List.getElem?_eq_some_iff.1 h2).1
      simpa using this
    have het : (es.eraseIdxIfInBounds j).toList = es.toList.eraseIdx j := by
      unfold Array.eraseIdxIfInBounds
      rw [dif_pos hjl]
      simp
    have hp := ((stamped_iff es clock).1 hs).2.2
    rw [List.pairwise_iff_getElem] at hp
    have huniq : ∀ (i : Nat) (y : MapEntry), es.toList[i]? = some y → y.key = St s → i = j := fun i y hi hy => by
      obtain ⟨l1, g1⟩ := List.getElem?_eq_some_iff.1 hi
      obtain ⟨l2, g2⟩ := List.getElem?_eq_some_iff.1 h2
      rcases Nat.lt_trichotomy i j with q | q | q
      · exact absurd (by rw [g1, g2, hy, h3]) (hp i j l1 l2 q)
      · exact q
      · exact absurd (by rw [g1, g2, hy, h3]) (hp j i l2 l1 q)
    refine ⟨_, clock, (heap_set hb).1, stamped_erase hs _, fun y hy => ?_, fun t v hv => ?_⟩
    · rw [het, List.mem_eraseIdx_iff_getElem?] at hy
      obtain ⟨i, hij, hi⟩ := hy
      obtain ⟨t, e, hv⟩ := hk y (List.mem_of_getElem? hi)
      have hne : ¬ t = s := fun q => hij (huniq i y hi (by rw [e, q]))
      exact ⟨t, e, by simp [hne, hv]⟩
    · by_cases hts : t = s
      · simp [hts] at hv
      · simp [hts] at hv
        obtain ⟨y, hy, e⟩ := hg t v hv
        obtain ⟨i, hi⟩ := List.mem_iff_getElem?.1 hy
        refine ⟨y, ?_, e⟩
        rw [het, List.mem_eraseIdx_iff_getElem?]
        exact ⟨i, fun q => hts (by
          subst q
          rw [h2] at hi
          cases hi
          exact St_inj (e.symm.trans h3)), hi⟩
theorem MpS.del {w : World} {b : Nat} {S : Str → Prop} (h : MpS w b S) (s : Str) (ty : TypeId) :
    ∃ w', (Builtin.delete_ #[79, 9] ty #[.map (some b), .string ⟨s.toArray⟩]).run Try.prog w = .ok (.tuple #[]) w' ∧ MpS w' b (fun t => S t ∧ ¬ t = s) ∧ Fr (fun c => c = b) w w' := by
  obtain ⟨g, h1, h2, h3⟩ := h
  obtain ⟨w', hr, hm, hf⟩ := h1.del s ty
  refine ⟨w', hr, ⟨_, hm, fun t v hv => ?_, fun t => ?_⟩, hf⟩
  · by_cases hts : t = s
    · simp [hts] at hv
    · simp [hts] at hv
      exact h2 t v hv
  · by_cases hts : t = s
    · simp [hts]
    · simp [hts, h3 t]

/-- at block b lies a row of these truths -/
def Bs (w : World) (b : Nat) (l : List Bool) : Prop := w.heap[b]? = some (.cells (l.map Value.bool).toArray 4 (0, 0))
theorem Bs.kept {w w' : World} {b : Nat} {l : List Bool} {F : Nat → Prop} (h : Bs w b l) (k : Fr F w w') (hF : ¬ F b) : Bs w' b l := k.get h hF
theorem Bs.cell {w : World} {b : Nat} {l : List Bool} (h : Bs w b l) {i : Nat} {q : Bool} (hi : l[i]? = some q) : w.cell? ⟨b, i, none⟩ = some (.bool q) := by
  rw [cell_of_get h]
  simp [hi]
theorem Bs.new (w : World) (n : Nat) : Bs (w.alloc (.cells (madeCells #[.bool false] n) 4)) w.heap.size (List.replicate n false) := by
  have ht := toList_madeCells_one (.bool false) n
  have : madeCells #[Value.bool false] n = ((List.replicate n false).map Value.bool).toArray := by
    apply Array.ext'
    rw [ht]
    simp
  unfold Bs
  rw [this]
  exact heap_alloc_new w _
theorem Bs.set {w : World} {b : Nat} {l : List Bool} (h : Bs w b l) (i : Nat) (q : Bool) : Bs (w.setCell ⟨b, i, none⟩ (.bool q)) b (l.set i q) := by
  unfold Bs at *
  simp [World.setCell, Array.getElem?_modify, h, List.map_set]
theorem make_bools (n : Nat) (hn : n ≤ 17592186044416) (w : World) :
    (Instr.makeSlice 40 (.int .i64 (n : Int)) (.int .i64 (n : Int))).run Try.prog w = .ok (.slice (some ⟨w.heap.size, 0, none⟩) n n) (w.alloc (.cells (madeCells #[.bool false] n) 4)) :=
  run_make_row' (P := Try.prog) 40 4 (.bool false) 1 (by kernel_rfl) (by kernel_rfl) rfl .i64 .i64 n (by omega) (by omega) w
end Go.Proofs.Ytddcfnjmppijjaa

/-! strict's let. -/
namespace Go.Proofs.Ytddcfnjmppijjaa
open Go.RowKit

theorem mem_take_succ9 {l : List Str} {j : Nat} {x y : Str} (h : l[j]? = some x) : y ∈ l.take (j + 1) ↔ y ∈ l.take j ∨ y = x := by
  rw [List.take_add_one, h, List.mem_append]
  simp
/-- how many truths at a block are false -/
def leftW (w : World) (b : Nat) : Nat := match w.heap[b]? with
  | some (.cells c _ _) => (c.toList.filter (fun v => match v with | .bool false => true | _ => false)).length
  | _ => 0
theorem Bs.left {w : World} {b : Nat} {l : List Bool} (h : Bs w b l) : leftW w b = left8 l := by
  unfold leftW
  unfold Bs at h
  rw [h]
  unfold left8
  clear h
  show ((l.map Value.bool).filter _).length = _
  induction l with
  | nil => rfl
  | cons q r ih => cases q <;> simp_all []
/-- nothing more to be taken in, of the first j -/
def Cl (ps : List (Str × DS)) (sl : List Bool) (dO : DS) (j : Nat) : Prop := ¬ dO.all → ∀ (i : Nat) (n : Str) (d : DS), i < j → ps[i]? = some (n, d) → dO.mem n → sl[i]? = some true
theorem cl_succ {ps : List (Str × DS)} {sl : List Bool} {dO d : DS} {j : Nat} {s : Str} (h : Cl ps sl dO j) (hp : ps[j]? = some (s, d)) (hn : ¬ dO.all → dO.mem s → sl[j]? = some true) : Cl ps sl dO (j + 1) := by
  intro hA i n e hi hq hm
  by_cases hij : i = j
  · subst hij
    rw [hp] at hq
    cases hq
    exact hn hA hm
  · exact h hA i n e (by omega) hq hm
/-- how far a let has come -/
structure LW (w0 w W7 : World) (g5 gs : Nat) (d0 : DS) (ps : List (Str × DS)) (sl : List Bool) (dO : DS) (b : Nat) (A : Bool) (wr : World) : Prop where
  out : wr.heap[g5]? = some (.cells #[.map (some b), .bool A] 81 (0, 0))
  sd : SD wr w.heap.size (.agg #[.map (some b), .bool A]) dO
  bs : Bs wr gs sl
  li : LI d0 ps sl dO
  fr : Fr (fun c => c = g5 ∨ c = gs) W7 wr
theorem LW.ne {w0 w W7 : World} {g5 gs : Nat} {d0 : DS} {ps : List (Str × DS)} {sl : List Bool} {dO : DS} {b : Nat} {A : Bool} {wr : World} (h : LW w0 w W7 g5 gs d0 ps sl dO b A wr) : b ≠ g5 ∧ b ≠ gs := by
  obtain ⟨A', S, ⟨c, e', -, ⟨q, ⟨es, ck, h1, -⟩, -⟩, -⟩, -⟩ := h.sd
  have := agg_inj e'
  subst this
  exact ⟨fun e => (by have := h.out; rw [← e, h1] at this; cases this), fun e => (by have := h.bs; unfold Bs at this; rw [← e, h1] at this; cases this)⟩
set_option maxHeartbeats 8000000 in
set_option maxRecDepth 100000 in
/-- let -/
theorem let_core {w0 : World} {D : Nat → Prop} {vN : Value} {nl : Ned} {av : Option Addr} {l : List X} {ns : List Str} {y : X} {cap : Nat} (H : DkAt w0 D vN nl av l) (hll : l.length = ns.length + 1) (hl : ns.length ≤ 1000000) (hy : l[ns.length]? = some y) (w : World) (hw : Grew w0 w) (k : Int) (t : Str) (vn : Value)
    (hnm : Nm w0 (fun b => w0.heap.size ≤ b) vn ns) : Calls Try.prog 72 #[.agg #[vN], .agg #[Kv k, St t, vn, .slice av (ns.length + 1) cap]] w (DmPost w (letD (dem nl y) (ns.zip (dems nl l)))) := by
  obtain ⟨dR, hdR⟩ : ∃ d, d = letD (dem nl y) (ns.zip (dems nl l)) := ⟨_, rfl⟩
  rw [← hdR]
  have HDR := hid hdR
  clear hdR
  obtain ⟨an, cn, rfl, hn1, hn2⟩ := hnm.shape
  replace hn2 : cn ≤ 9223372036854775807 := hn2
  obtain ⟨g, o, rfl, hel⟩ := H (fun e => by rw [e] at hll; simp at hll)
  obtain ⟨W3, hW3⟩ : ∃ q : World, q = ((w.alloc (.cells #[vN] 85)).alloc (.cells #[Kv k, St t, .slice an ns.length cn, .slice (some ⟨g, o, none⟩) (ns.length + 1) cap] 28)).alloc (.cells #[.map none, .bool false] 81) := ⟨_, rfl⟩
  have g3 : Grew w W3 := by rw [hW3]; exact (((Fr.refl _ _).alloc _).alloc _).alloc _
  have hs3 : W3.heap.size = w.heap.size + 3 := by rw [hW3]; simp
  have hbn : W3.heap[w.heap.size]? = some (.cells #[vN] 85 (0, 0)) := by rw [hW3]; exact (((Fr.refl (fun _ => False) _).alloc _).alloc _).get (heap_alloc_new w _) (fun f => f)
  have hbe : W3.heap[w.heap.size + 1]? = some (.cells #[Kv k, St t, .slice an ns.length cn, .slice (some ⟨g, o, none⟩) (ns.length + 1) cap] 28 (0, 0)) := by rw [hW3]; exact ((Fr.refl (fun _ => False) _).alloc _).get (heap_a2 w _ _) (fun f => f)
  have hbr : W3.heap[w.heap.size + 1 + 1]? = some (.cells #[.map none, .bool false] 81 (0, 0)) := by
    rw [hW3]
    have := heap_alloc_new ((w.alloc (.cells #[vN] 85)).alloc (.cells #[Kv k, St t, .slice an ns.length cn, .slice (some ⟨g, o, none⟩) (ns.length + 1) cap] 28)) (.cells #[.map none, .bool false] 81)
    simpa using this
  obtain ⟨any, cny, aay, cay, he0, hc0⟩ := hel ns.length y hy
  have gw3 := hw.trans g3 (fun _ _ f => f)
  have hw0 := hid hw.size
  have HN0 := hid (cell_of_get hbn 0)
  have HE3 := hid (show W3.cell? ⟨w.heap.size + 1, 3, none⟩ = some (.slice (some ⟨g, o, none⟩) (ns.length + 1) cap) from cell_of_get hbe 3)
  have HC0 := hid (And.intro (gw3.cell he0.c0 (fun f => f)) (And.intro (gw3.cell he0.c1 (fun f => f)) (And.intro (gw3.cell he0.c2 (fun f => f)) (gw3.cell he0.c3 (fun f => f)))))
  have HD0 := hid (fun (W' : World) (k : Grew W3 W') => hc0 W' (gw3.trans k (fun _ _ f => f)))
  have HBN := hid hbn
  have HBE := hid hbe
  have HBR := hid hbr
  have HEL := hid hel
  have HEE := hid he0
  have HNM := hid hnm
  have HE2 := hid (show W3.cell? ⟨w.heap.size + 1, 2, none⟩ = some (.slice an ns.length cn) from cell_of_get hbe 2)
  have HLL := hid hll
  have HGW3 := hid gw3
  have HG3 := hid g3
  have HS3 := hid hs3
  clear H hel he0 hc0 hbn hbe hbr hnm gw3 hll hy g3 hs3 hw
  have hnn : (ns.length : Int) < (ns.length : Int) + 1 := by omega
  go_enter Try.func72, Try.ntmps72
  go_upto_region 1 with (fail)
  rw [← hW3]
  clear hW3
  refine Rg.wp_region_facts 11 Grew [(12, Rg.Ex (.agg #[vN])), (13, Rg.Ex (.pointer (some ⟨w.heap.size + 1, 3, none⟩))), (14, Rg.Ex (.slice (some ⟨g, o, none⟩) (ns.length + 1) cap)), (15, Rg.Ex (.pointer (some ⟨w.heap.size + 1, 3, none⟩))), (16, Rg.Ex (.slice (some ⟨g, o, none⟩) (ns.length + 1) cap)), (17, Rg.Ex (.int .i64 ((ns.length : Int) + 1))), (18, Rg.Ex (.int .i64 (ns.length : Int))), (19, Rg.Ex (.pointer (some ⟨g, o + ns.length * 4, none⟩))), (20, Rg.Ex (.agg #[Kv y.kind, St y.text, .slice any y.names.length cny, .slice aay y.parts.length cay])), (21, FS8 W3.heap.size (dem nl y)), (5, F5 W3.heap.size)] (by kernel_rfl) (by kernel_rfl) (by rfl) (by rfl)
    (fun a => Fr.refl _ a) (fun a b c h k => h.trans k (fun _ _ f => f)) (Fr.refl _ _).drew
    (Rg.Stays.all ⟨Rg.Ex.stays _, Rg.Ex.stays _, Rg.Ex.stays _, Rg.Ex.stays _, Rg.Ex.stays _, Rg.Ex.stays _, Rg.Ex.stays _, Rg.Ex.stays _, Rg.Ex.stays _, FS8.stays _ _, F5.stays _, trivial⟩) ?_ ?_
  · go_light
    refine Rg.OpGoals.cons (Rg.OpGoal.plain rfl ?_) (Rg.OpGoals.cons (Rg.OpGoal.plain rfl ?_) (Rg.OpGoals.cons (Rg.OpGoal.plain rfl ?_) (Rg.OpGoals.cons (Rg.OpGoal.plain rfl ?_) (Rg.OpGoals.cons (Rg.OpGoal.plain rfl ?_) (Rg.OpGoals.cons (Rg.OpGoal.plain rfl ?_) (Rg.OpGoals.cons (Rg.OpGoal.plain rfl ?_) (Rg.OpGoals.cons (Rg.OpGoal.plain rfl ?_) (Rg.OpGoals.cons (Rg.OpGoal.plain rfl ?_) (Rg.OpGoals.cons (Rg.OpGoal.plain rfl ?_) (Rg.OpGoals.cons (Rg.OpGoal.plain rfl ?_) Rg.OpGoals.none))))))))))
    all_goals (intro a' w' hS hR; simp [Rg.Rd, Op.operands, Call.operands, Rg.Fk, Rg.Ex] at hR)
    all_goals (have n0' := hS.cell HN0.out (fun f => f))
    all_goals (have e3' := hS.cell HE3.out (fun f => f))
    all_goals (have c0' := hS.cell HC0.out.1 (fun f => f))
    all_goals (have c1' := hS.cell HC0.out.2.1 (fun f => f))
    all_goals (have c2' := hS.cell HC0.out.2.2.1 (fun f => f))
    all_goals (have c3' := hS.cell HC0.out.2.2.2 (fun f => f))
    all_goals try (simp [Rg.Yields, execOp, Act.eval, hR, n0', e3', c0', c1', c2', c3', hnn, go_sem, Rg.Fk, Rg.Ex, Fr.refl]; done)
    · simp [Rg.Yields, execOp, Act.eval, hR, go_sem, Rg.Fk, Rg.Ex, Fr.refl]
      exact IntWalk.i64_in _ (by omega)
    · simp [Rg.Yields, Act.eval, hR, go_sem, Rg.Fk, Rg.Ex]
      refine (HD0.out _ hS).mono ?_
      rintro e w2 ⟨r, rfl, h1, h2⟩
      exact ⟨r, rfl, h1.mono hS.size, h2⟩
    · simp [Rg.Yields, execOp, go_sem, Rg.Fk, Rg.Ex]
      exact ⟨⟨_, hS.size, rfl, heap_alloc_new w' _⟩, (Fr.refl _ _).alloc _⟩
  · intro w5 hS
    rintro _ rfl _ rfl _ rfl _ rfl _ rfl _ rfl _ rfl _ rfl _ rfl v21 h21 v5 h5
    refine Rg.Then.nil ?_
    obtain ⟨b0, A0, rfl⟩ := SD.shape h21
    have h21' : SD w5 W3.heap.size _ _ := h21
    obtain ⟨g5, hg5, rfl, hq⟩ := h5
    obtain ⟨k0, k1⟩ := And.intro (cell_of_get hq 0) (cell_of_get hq 1)
    obtain ⟨f0, f1⟩ := And.intro (frozen_of_get hq 0) (frozen_of_get hq 1)
    obtain ⟨W6, hW6⟩ : ∃ z : World, z = set2 w5 g5 (.map (some b0)) (.bool A0) := ⟨_, rfl⟩
    have hset : Fr (fun c => c = g5) w5 W6 := by rw [hW6]; exact set2_fr _ _ _ _
    have hq6 : W6.heap[g5]? = some (.cells #[.map (some b0), .bool A0] 81 (0, 0)) := by rw [hW6]; exact set2_heap hq _ _
    have hne0 : b0 ≠ g5 := fun e => by
      obtain ⟨A', S, ⟨c, e', -, ⟨q, ⟨es, ck, h1, -⟩, -⟩, -⟩, -⟩ := h21'
      have := agg_inj e'
      subst this
      rw [e, hq] at h1; cases h1
    have hs3 := HS3.out
    have g36 : Fr (fun c => c = g5) W3 W6 := (Grew.any hS).trans hset (fun _ _ e => e)
    have gw6 : Grew w W6 := HG3.out.trans g36 (fun c hc e => by omega)
    have HSD6 := hid ((h21'.mono (show w.heap.size ≤ W3.heap.size by omega)).keptn hset (fun b A e => by have := agg_inj e; subst this; exact hne0))
    have gw06 : Grew w0 W6 := HGW3.out.trans g36 (fun c hc e => by
      have h1 := HG3.out.size
      have h2 := HGW3.out.size
      omega)
    have HN6 := hid (g36.cell HN0.out (by show ¬ (w.heap.size = g5); omega))
    have HE6 := hid (g36.cell HE3.out (by show ¬ (w.heap.size + 1 = g5); omega))
    have HG06 := hid gw06
    have HE26 := hid (g36.cell HE2.out (by show ¬ (w.heap.size + 1 = g5); omega))
    have hmk := fun w => make_bools ns.length (by omega) w
    have e2 := HE26.out
    have HQ6 := hid hq6
    have HR6 := hid (g36.get HBR.out (by omega))
    have HG6 := hid gw6
    have HNE0 := hid hne0
    have HG5 := hid (show w.heap.size + 3 ≤ g5 by omega)
    have HL5 := hid (lt_of_get hq6)
    clear h21 h21' hq hset hq6 hne0 hs3 g36 gw6 gw06 hS hg5 hnn
    go_upto_region 2 with (fail)
    dsimp only [set2] at hW6
    rw [← hW6]
    clear hW6 k0 k1 f0 f1
    go_wp2
    obtain ⟨W7, hW7⟩ : ∃ z : World, z = W6.alloc (.cells (madeCells #[.bool false] ns.length) 4) := ⟨_, rfl⟩
    have g67 : Grew W6 W7 := by rw [hW7]; exact (Fr.refl _ _).alloc _
    have hbs := Bs.new W6 ns.length
    rw [← hW7] at hbs ⊢
    have hpl : (ns.zip (dems nl l)).length = ns.length := by rw [List.length_zip, dems_length, HLL.out]; omega
    have hli := LI.init (dem nl y) (ns.zip (dems nl l))
    rw [hpl] at hli
    have HLW0 := hid (show LW w0 w W7 g5 W6.heap.size (dem nl y) (ns.zip (dems nl l)) (List.replicate ns.length false) (dem nl y) b0 A0 W7 from ⟨g67.get HQ6.out (fun f => f), HSD6.out.grew g67, hbs, hli, Fr.refl _ _⟩)
    have HE27 := hid (g67.cell HE26.out (fun f => f))
    have HN7 := hid (g67.cell HN6.out (fun f => f))
    have HE37 := hid (g67.cell HE6.out (fun f => f))
    have HR7 := hid (g67.get HR6.out (fun f => f))
    have HG07 := hid (HG06.out.trans g67 (fun _ _ f => f))
    have HG7 := hid (HG6.out.trans g67 (fun _ _ f => f))
    have HPL := hid hpl
    have HS67 := hid (show W7.heap.size = W6.heap.size + 1 by rw [hW7]; simp)
    clear hmk e2 hW7 g67 hbs hpl hli
    obtain ⟨gs, hgs⟩ : ∃ n, n = W6.heap.size := ⟨_, rfl⟩
    rw [← hgs] at HLW0 ⊢
    have HGS := hid hgs
    clear hgs
    obtain ⟨ps, hps⟩ : ∃ p, p = ns.zip (dems nl l) := ⟨_, rfl⟩
    rw [← hps] at HLW0 HDR HPL
    have HPS := hid hps
    clear hps
    go_loopw [7] (fun a wr => ∃ (ag : Bool) (sl : List Bool) (dO : DS) (b : Nat) (A : Bool), a = .bool ag ∧ LW w0 w W7 g5 gs (dem nl y) ps sl dO b A wr ∧ (ag = false → Cl ps sl dO ns.length)) (fun a wr => 2 * leftW wr gs + (match a with | .bool true => 1 | _ => 0))
    case atStart => exact ⟨true, _, _, b0, A0, rfl, HLW0.out, fun e => by cases e⟩
    case round =>
      obtain ⟨ag, sl, dO, b, A, rfl, hlw, hcl⟩ := hrel
      have hg5 := HG5.out
      have hgs := HGS.out
      have hl5 := HL5.out
      have HLW := hid hlw
      have HCL := hid hcl
      have e2 := hlw.fr.cell HE27.out (by show ¬ (w.heap.size + 1 = g5 ∨ w.heap.size + 1 = gs); omega)
      cases ag
      · have hdone := hlw.li.done (fun hA i n d hp hm => hcl rfl hA i n d (by have := (List.getElem?_eq_some_iff.1 hp).1; have := HPL.out; omega) hp hm)
        have HDN := hid hdone
        obtain ⟨o0, o1⟩ := And.intro (cell_of_get hlw.out 0) (cell_of_get hlw.out 1)
        have hne := hlw.ne
        have HNE := hid hne
        have HO := hid hlw.out
        have HRW := hid (hlw.fr.get HR7.out (by omega))
        have HGW := hid (show Grew w wr from HG7.out.trans hlw.fr (fun c hc e => by omega))
        have HG0 := hid (show Grew w0 wr from HG07.out.trans hlw.fr (fun c hc e => by
          have h1 := hw0.out
          omega))
        clear hdone hlw hcl hne hg5 hgs hl5 o1
        go_wp2
        clear o0 e2
        obtain ⟨wo, rfl⟩ : ∃ q : World, q = wr := ⟨_, rfl⟩
        go_loopw [62] (fun c wx => ∃ j : Nat, c = .int .i64 j ∧ j ≤ ns.length ∧ Fr (fun c => c = b) wo wx ∧ SD wx w.heap.size (.agg #[.map (some b), .bool A]) ⟨dO.all, fun s => dO.mem s ∧ s ∉ ns.take j⟩) (fun c _ => ns.length - (intOf c).toNat)
        case atStart => exact ⟨0, rfl, Nat.zero_le _, Fr.refl _ _, HLW.out.sd.as ⟨Iff.rfl, fun _ s => by simp⟩⟩
        case round =>
          obtain ⟨j, rfl, hj, hfx, hsd⟩ := hrel
          have hlb := hsd.lt
          have hox := hfx.get HO.out (fun e => HNE.out.1 e.symm)
          obtain ⟨o0, o1⟩ := And.intro (cell_of_get hox 0) (cell_of_get hox 1)
          have HFX := hid hfx
          have HSDx := hid hsd
          have HLB := hid hlb
          by_cases hjl : j < ns.length
          · obtain ⟨s, hs⟩ := at_of_lt (l := ns) hjl
            obtain ⟨gn, on, cn', e, -, -, -, hnel⟩ := HNM.out.row (fun e => by rw [e] at hjl; simp at hjl)
            simp only [Value.slice.injEq] at e
            obtain ⟨rfl, -, rfl⟩ := e
            have hg0x : Grew w0 wr := HG0.out.trans hfx (fun c hc e => by
              have h1 := hw0.out
              omega)
            have n0 := hg0x.cell (hnel j s hs) (fun f => f)
            obtain ⟨A', S, ⟨c, e', hBc, hmp, hAS⟩, k1, k2⟩ := hsd
            have hbc := agg_inj e'
            subst hbc
            obtain ⟨w9, hrun, hdel, hf9⟩ := hmp.del s 0
            have HS9 := hid (show SD w9 w.heap.size (.agg #[.map (some b), .bool A]) ⟨dO.all, fun t => dO.mem t ∧ t ∉ ns.take (j + 1)⟩ from
              ⟨A', _, ⟨b, e', hBc, hdel, fun q t z => hAS q t z.1⟩, k1, fun q t => by
                show (S t ∧ ¬ t = s) ↔ (dO.mem t ∧ t ∉ ns.take (j + 1))
                rw [k2 q t, mem_take_succ9 hs]
                show ((dO.mem t ∧ t ∉ ns.take j) ∧ ¬ t = s) ↔ _
                constructor
                · rintro ⟨⟨z1, z2⟩, z3⟩
                  exact ⟨z1, fun z => z.elim z2 z3⟩
                · rintro ⟨z1, z2⟩
                  exact ⟨⟨z1, fun z => z2 (.inl z)⟩, fun z => z2 (.inr z)⟩⟩)
            have HF9 := hid hf9
            clear hs hnel hg0x hBc hmp hAS k1 k2 e' hdel hf9 hfx hox o1 hlb
            go_wp2
            go_roundw
            case rel => exact ⟨j + 1, by go_num, by omega, HFX.out.trans HF9.out (fun _ _ e => e), HS9.out⟩
            case measure => simp [intOf]; omega
          · obtain rfl : j = ns.length := by omega
            have hb2 : b ≠ w.heap.size + 1 + 1 := fun e => by
              obtain ⟨A', S, ⟨c, e', -, ⟨q, ⟨es, ck, h1, -⟩, -⟩, -⟩, -⟩ := HLW.out.sd
              have := agg_inj e'
              subst this
              rw [e, HRW.out] at h1; cases h1
            have hr := hfx.get HRW.out (fun e => hb2 e.symm)
            obtain ⟨r0, r1⟩ := And.intro (cell_of_get hr 0) (cell_of_get hr 1)
            obtain ⟨x0', x1'⟩ := And.intro (frozen_of_get hr 0) (frozen_of_get hr 1)
            have HR := hid hr
            have HB2 := hid hb2
            have hpm : ps.map (·.1) = ns := by rw [HPS.out]; exact List.map_fst_zip (by rw [dems_length, HLL.out]; omega)
            have HEQ := hid (show SD wr w.heap.size (.agg #[.map (some b), .bool A]) dR from hsd.as (by
              rw [HDR.out]
              refine ⟨HDN.out.1, fun hA s => ?_⟩
              show (dO.mem s ∧ s ∉ ns.take ns.length) ↔ (Rch (dem nl y) ps s ∧ s ∉ ps.map (·.1))
              rw [List.take_length, hpm, HDN.out.2 hA s]))
            clear hsd hfx hox hr hb2 hpm hlb
            go_wp2
            have hf2 := set2_fr wr (w.heap.size + 1 + 1) (.map (some b)) (.bool A)
            exact bodyPost_ret (v := .agg #[.map (some b), .bool A]) (res81 Try.results72 _ _ (w.heap.size + 1 + 1) rfl (set2_heap HR.out _ _)) rfl ⟨_, rfl, HEQ.out.keptn hf2 (fun c A' e => by have := agg_inj e; subst this; exact HB2.out), (HGW.out.trans HFX.out (fun c hc e => by have := HLB.out.1; omega)).trans hf2 (fun c hc e => by omega)⟩
      · clear hcl hlw hg5 hgs hl5
        go_wp2
        clear e2
        obtain ⟨wo, rfl⟩ : ∃ q : World, q = wr := ⟨_, rfl⟩
        go_loopw [7, 30] (fun a c wr => ∃ (ag : Bool) (sl2 : List Bool) (dO2 : DS) (b2 : Nat) (A2 : Bool) (j : Nat), a = .bool ag ∧ c = .int .i64 j ∧ j ≤ ns.length ∧ LW w0 w W7 g5 gs (dem nl y) ps sl2 dO2 b2 A2 wr ∧ leftW wr gs ≤ leftW wo gs ∧ (ag = true → leftW wr gs < leftW wo gs) ∧ (ag = false → Cl ps sl2 dO2 j)) (fun _ c _ => ns.length - (intOf c).toNat)
        case atStart => exact ⟨false, sl, dO, b, A, 0, rfl, rfl, Nat.zero_le _, HLW.out, Nat.le_refl _, (fun e => by cases e), (fun _ _ i n d h => by omega)⟩
        case round =>
          obtain ⟨ag, sl2, dO2, b2, A2, j, rfl, rfl, hj, hlw, hle, hlt2, hcl⟩ := hrel
          have HLW2 := hid hlw
          have HLE := hid hle
          have HLT := hid hlt2
          have HCL2 := hid hcl
          by_cases hjl : j < ns.length
          · obtain ⟨s, hs⟩ := at_of_lt (l := ns) hjl
            obtain ⟨x, hx⟩ := at_of_lt (l := l) (i := j) (by have := HLL.out; omega)
            have HPJ := hid (show ps[j]? = some (s, dem nl x) by rw [HPS.out]; exact List.getElem?_zip_eq_some.2 ⟨hs, dems_get nl hx⟩)
            obtain ⟨gn, on, cn', e, -, -, -, hnel⟩ := HNM.out.row (fun e => by rw [e] at hjl; simp at hjl)
            simp only [Value.slice.injEq] at e
            obtain ⟨rfl, -, rfl⟩ := e
            have HG0 := hid (show Grew w0 wr from HG07.out.trans hlw.fr (fun c hc e => by
              have h1 := hw0.out
              have h2 := HG5.out
              have h3 := HGS.out
              have h4 := HL5.out
              omega))
            have n0 := HG0.out.cell (hnel j s hs) (fun f => f)
            obtain ⟨o0, o1⟩ := And.intro (cell_of_get hlw.out 0) (cell_of_get hlw.out 1)
            obtain ⟨sq, hsq⟩ := at_of_lt (l := sl2) (i := j) (by have := hlw.li.len; have := HPL.out; omega)
            have bq := hlw.bs.cell hsq
            obtain ⟨A', S, ⟨c, e', -, hmp, hAS⟩, k1, k2⟩ := hlw.sd
            have hbc := agg_inj e'
            have hAA : A2 = A' := by
              simp only [Value.agg.injEq, Array.mk.injEq, List.cons.injEq, Value.bool.injEq] at e'
              exact e'.2.1
            subst hbc
            subst hAA
            obtain ⟨q, hq, hlk⟩ := hmp.look s
            have HSQ := hid hsq
            have HQS := hid hq
            have HK1 := hid k1
            have HK2 := hid k2
            have HAS := hid hAS
            have HO2 := hid hlw.out
            have HBS := hid hlw.bs
            have HXJ := hid hx
            clear hs hx hnel hsq hq k1 k2 hAS hmp e' hle hlt2 hcl
            cases q
            · have HCL3 := hid (fun (e : ag = false) => cl_succ (HCL2.out e) HPJ.out (fun hA hm => by
                have hAf : A2 = false := by
                  cases h : A2
                  · rfl
                  · exact absurd (HK1.out.1 h) hA
                exact absurd (HQS.out.2 ((HK2.out hAf s).2 hm)) (by simp)))
              clear hlw bq o1
              go_wp2
              go_roundw
              case rel => exact ⟨ag, sl2, dO2, b2, A2, j + 1, rfl, by go_num, by omega, HLW2.out, HLE.out, HLT.out, HCL3.out⟩
              case measure => simp [intOf]; omega
            · cases sq
              · cases A2
                case true => exact absurd (HQS.out.1 rfl) (HAS.out rfl s)
                have hA : ¬ dO2.all := fun z => by have := HK1.out.2 z; cases this
                have hm : dO2.mem s := (HK2.out rfl s).1 (HQS.out.1 rfl)
                have hg5 := HG5.out
                have hgs := HGS.out
                have hl5 := HL5.out
                have h0w := hw0.out
                have hne := hlw.ne
                have fq : wr.frozen? ⟨gs, j, none⟩ = false := frozen_of_get hlw.bs j
                obtain ⟨W9, hW9⟩ : ∃ z : World, z = wr.setCell ⟨gs, j, none⟩ (.bool true) := ⟨_, rfl⟩
                have hset9 : Fr (fun c => c = gs) wr W9 := by rw [hW9]; exact (Fr.refl (fun c => c = gs) _).setCell (p := ⟨gs, j, none⟩) (fun _ => rfl) _
                have HBS9 := hid (show Bs W9 gs (sl2.set j true) by rw [hW9]; exact hlw.bs.set j true)
                have ho9 := hset9.get HO2.out (by omega)
                have HO7 := hid ho9
                have HO := hid (And.intro (cell_of_get ho9 0) (cell_of_get ho9 1))
                have HN9 := hid (hset9.cell (hlw.fr.cell HN7.out (by show ¬ (w.heap.size = g5 ∨ w.heap.size = gs); omega)) (by show ¬ (w.heap.size = gs); omega))
                have HE9 := hid (hset9.cell (hlw.fr.cell HE37.out (by show ¬ (w.heap.size + 1 = g5 ∨ w.heap.size + 1 = gs); omega)) (by show ¬ (w.heap.size + 1 = gs); omega))
                have hg09 : Grew w0 W9 := HG0.out.trans hset9 (fun c hc e => by omega)
                obtain ⟨an3, cn3, aa3, ca3, he, hc⟩ := HEL.out j x HXJ.out
                have HC := hid (And.intro (hg09.cell he.c0 (fun f => f)) (And.intro (hg09.cell he.c1 (fun f => f)) (And.intro (hg09.cell he.c2 (fun f => f)) (hg09.cell he.c3 (fun f => f)))))
                have HDX := hid (fun (W' : World) (k : Grew W9 W') => hc W' (hg09.trans k (fun _ _ f => f)))
                have HOUT := hid (hlw.sd.keptn hset9 (fun b A e => by have := agg_inj e; subst this; exact hne.2))
                have HLI := hid (hlw.li.step HPJ.out hm hA)
                have HFR9 := hid (hlw.fr.trans hset9 (fun _ _ e => .inr e))
                have HL9 := hid (lt_of_get ho9)
                have HSW9 := hid (show w.heap.size ≤ W9.heap.size by have := HG7.out.size; have := hlw.fr.size; have := hset9.size; omega)
                have HLW3 := hid (show leftW wr gs = left8 sl2 from hlw.bs.left)
                have hj1 : (j : Int) < (ns.length : Int) + 1 := by omega
                clear hlw hA hm hg5 hgs hl5 h0w hne hset9 ho9 hg09 he hc
                go_upto_region 11 with (fail)
                rw [← hW9]
                clear hW9 fq bq o0 o1 n0 hlk
                refine Rg.wp_region_facts 9 Grew [(49, Rg.Ex (.agg #[.map (some b2), .bool false])), (50, Rg.Ex (.agg #[vN])), (51, Rg.Ex (.pointer (some ⟨w.heap.size + 1, 3, none⟩))), (52, Rg.Ex (.slice (some ⟨g, o, none⟩) (ns.length + 1) cap)), (53, Rg.Ex (.int .i64 (j : Int))), (54, Rg.Ex (.pointer (some ⟨g, o + j * 4, none⟩))), (55, Rg.Ex (.agg #[Kv x.kind, St x.text, .slice an3 x.names.length cn3, .slice aa3 x.parts.length ca3])), (56, FS8 W9.heap.size (dem nl x)), (57, FS8 W9.heap.size (dO2.un (dem nl x)))] (by kernel_rfl) (by kernel_rfl) (by rfl) (by rfl)
                  (fun a => Fr.refl _ a) (fun a b c h k => h.trans k (fun _ _ f => f)) (Fr.refl _ _).drew
                  (Rg.Stays.all ⟨Rg.Ex.stays _, Rg.Ex.stays _, Rg.Ex.stays _, Rg.Ex.stays _, Rg.Ex.stays _, Rg.Ex.stays _, Rg.Ex.stays _, FS8.stays _ _, FS8.stays _ _, trivial⟩) ?_ ?_
                · go_light
                  refine Rg.OpGoals.cons (Rg.OpGoal.plain rfl ?_) (Rg.OpGoals.cons (Rg.OpGoal.plain rfl ?_) (Rg.OpGoals.cons (Rg.OpGoal.plain rfl ?_) (Rg.OpGoals.cons (Rg.OpGoal.plain rfl ?_) (Rg.OpGoals.cons (Rg.OpGoal.plain rfl ?_) (Rg.OpGoals.cons (Rg.OpGoal.plain rfl ?_) (Rg.OpGoals.cons (Rg.OpGoal.plain rfl ?_) (Rg.OpGoals.cons (Rg.OpGoal.plain rfl ?_) (Rg.OpGoals.cons (Rg.OpGoal.plain rfl ?_) Rg.OpGoals.none))))))))
                  all_goals (intro a' w' hS hR; simp [Rg.Rd, Op.operands, Call.operands, Rg.Fk, Rg.Ex] at hR)
                  all_goals (have o0' := hS.cell HO.out.1 (fun f => f))
                  all_goals (have o1' := hS.cell HO.out.2 (fun f => f))
                  all_goals (have n0' := hS.cell HN9.out (fun f => f))
                  all_goals (have e3' := hS.cell HE9.out (fun f => f))
                  all_goals (have c0' := hS.cell HC.out.1 (fun f => f))
                  all_goals (have c1' := hS.cell HC.out.2.1 (fun f => f))
                  all_goals (have c2' := hS.cell HC.out.2.2.1 (fun f => f))
                  all_goals (have c3' := hS.cell HC.out.2.2.2 (fun f => f))
                  all_goals try (simp [Rg.Yields, execOp, Act.eval, hR, o0', o1', n0', e3', c0', c1', c2', c3', hj1, go_sem, Rg.Fk, Rg.Ex, Fr.refl]; done)
                  · simp [Rg.Yields, Act.eval, hR, go_sem, Rg.Fk, Rg.Ex]
                    refine (HDX.out _ hS).mono ?_
                    rintro e w2 ⟨r, rfl, h1, h2⟩
                    exact ⟨r, rfl, h1.mono hS.size, h2⟩
                  · obtain ⟨e1, h2⟩ := hR
                    obtain ⟨b8, A8, e2⟩ := SD.shape h2
                    have h2' : SD w' _ _ _ := h2
                    rw [e2] at h2'
                    simp [Rg.Yields, Act.eval, e1, e2, go_sem, Rg.Fk, Rg.Ex]
                    refine (together_d (HOUT.out.grew hS) h2').mono ?_
                    rintro e w2 ⟨r, rfl, h3, h4⟩
                    exact ⟨r, rfl, h3.mono hS.size, h4⟩
                · intro w8 hS
                  rintro _ rfl _ rfl _ rfl _ rfl _ rfl _ rfl _ rfl v56 h56 v57 h57
                  refine Rg.Then.nil ?_
                  clear h56
                  obtain ⟨b', A3, rfl⟩ := SD.shape h57
                  have h57' : SD w8 W9.heap.size _ _ := h57
                  have hq := hS.get HO7.out (fun f => f)
                  obtain ⟨k0, k1⟩ := And.intro (cell_of_get hq 0) (cell_of_get hq 1)
                  obtain ⟨f0, f1⟩ := And.intro (frozen_of_get hq 0) (frozen_of_get hq 1)
                  have hset := set2_fr w8 g5 (.map (some b')) (.bool A3)
                  have hl := h57'.lt
                  have hl9 := HL9.out
                  have hsw := HSW9.out
                  have hgs := HGS.out
                  have hl5 := HL5.out
                  have hbs := (HBS9.out.kept hS (fun f => f)).kept hset (by omega)
                  have HLF := hid (show LW w0 w W7 g5 gs (dem nl y) ps (sl2.set j true) (dO2.un (dem nl x)) b' A3 (set2 w8 g5 (.map (some b')) (.bool A3)) from
                    ⟨set2_heap hq _ _, (h57'.mono hsw).keptn hset (fun b A e => by have := agg_inj e; subst this; omega), hbs, HLI.out, (HFR9.out.trans (Grew.any hS) (fun _ _ e => e)).trans hset (fun _ _ e => .inl e)⟩)
                  have HLL3 := hid (show leftW ((w8.setCell ⟨g5, 0, none⟩ (.map (some b'))).setCell ⟨g5, 1, none⟩ (.bool A3)) gs + 1 = leftW wr gs by rw [hbs.left, HLW3.out]; exact left8_set HSQ.out)
                  clear h57 h57' hq hset hl hl9 hsw hgs hl5 hbs hS
                  go_wp2
                  go_roundw
                  case rel => exact ⟨true, sl2.set j true, dO2.un (dem nl x), b', A3, j + 1, rfl, by go_num, by omega, HLF.out, (by have := HLL3.out; have := HLE.out; omega), (fun _ => by have := HLL3.out; have := HLE.out; omega), (fun e => by cases e)⟩
                  case measure => simp [intOf]; omega
              · have HCL3 := hid (fun (e : ag = false) => cl_succ (HCL2.out e) HPJ.out (fun _ _ => HSQ.out))
                clear hlw o1
                go_wp2
                go_roundw
                case rel => exact ⟨ag, sl2, dO2, b2, A2, j + 1, rfl, by go_num, by omega, HLW2.out, HLE.out, HLT.out, HCL3.out⟩
                case measure => simp [intOf]; omega
          · obtain rfl : j = ns.length := by omega
            clear hlw hle hlt2 hcl
            go_wp2
            go_roundw
            case rel => exact ⟨ag, sl2, dO2, b2, A2, rfl, HLW2.out, HCL2.out⟩
            case measure =>
              have h1 := HLE.out
              have h2 := HLT.out
              cases ag
              · simp; omega
              · have := h2 rfl
                simp; omega
end Go.Proofs.Ytddcfnjmppijjaa

/-! strict's demands. -/
namespace Go.Proofs.Ytddcfnjmppijjaa
open Go.RowKit

theorem dm_done {w wr : World} {B b r : Nat} {A : Bool} {d : DS} {x y : Value} (hsd : SD wr B (.agg #[.map (some b), .bool A]) d) (hB : w.heap.size ≤ B) (hg : Grew w wr) (hr : wr.heap[r]? = some (.cells #[x, y] 81 (0, 0))) (hrw : w.heap.size ≤ r) :
    DmPost w d (.returned (.agg #[.map (some b), .bool A])) (set2 wr r (.map (some b)) (.bool A)) := by
  have hf2 := set2_fr wr r (.map (some b)) (.bool A)
  refine ⟨_, rfl, (hsd.mono hB).keptn hf2 (fun c A' e => ?_), hg.trans hf2 (fun c hc e => by omega)⟩
  have := agg_inj e
  subst this
  intro e2
  obtain ⟨A', S, ⟨c, e', -, ⟨q, ⟨es, ck, h1, -⟩, -⟩, -⟩, -⟩ := hsd
  have := agg_inj e'
  subst this
  rw [e2, hr] at h1; cases h1

set_option maxHeartbeats 8000000 in
set_option maxRecDepth 100000 in
theorem dem_core {w0 : World} {D : Nat → Prop} {vN : Value} {nl : Ned} {av : Option Addr} {l : List X} {cap : Nat} (H : DkAt w0 D vN nl av l) (hnd : Nd w0 (fun _ => False) vN nl) (hl : l.length ≤ 1000000) (w : World) (hw : Grew w0 w) (k : Int) (t : Str) (vn : Value) (ns : List Str)
    (hnm : Nm w0 (fun b => w0.heap.size ≤ b) vn ns) (h7 : k = 7 → l ≠ []) (h8 : k = 8 → l.length = 3) (h9 : k = 9 → l.length = ns.length + 1) :
    Calls Try.prog 50 #[.agg #[vN], .agg #[Kv k, St t, vn, .slice av l.length cap]] w (DmPost w (demF nl k t ns l (dems nl l))) := by
  obtain ⟨dR, hdR⟩ : ∃ d, d = demF nl k t ns l (dems nl l) := ⟨_, rfl⟩
  rw [← hdR]
  have HDR := hid hdR
  clear hdR
  obtain ⟨W3, hW3⟩ : ∃ q : World, q = ((w.alloc (.cells #[vN] 85)).alloc (.cells #[Kv k, St t, vn, .slice av l.length cap] 28)).alloc (.cells #[.map none, .bool false] 81) := ⟨_, rfl⟩
  have g3 : Grew w W3 := by rw [hW3]; exact (((Fr.refl _ _).alloc _).alloc _).alloc _
  have hbn : W3.heap[w.heap.size]? = some (.cells #[vN] 85 (0, 0)) := by rw [hW3]; exact (((Fr.refl (fun _ => False) _).alloc _).alloc _).get (heap_alloc_new w _) (fun f => f)
  have hbe : W3.heap[w.heap.size + 1]? = some (.cells #[Kv k, St t, vn, .slice av l.length cap] 28 (0, 0)) := by rw [hW3]; exact ((Fr.refl (fun _ => False) _).alloc _).get (heap_a2 w _ _) (fun f => f)
  have hbr : W3.heap[w.heap.size + 1 + 1]? = some (.cells #[.map none, .bool false] 81 (0, 0)) := by
    rw [hW3]
    have := heap_alloc_new ((w.alloc (.cells #[vN] 85)).alloc (.cells #[Kv k, St t, vn, .slice av l.length cap] 28)) (.cells #[.map none, .bool false] 81)
    simpa using this
  have HG3 := hid g3
  have HG03 := hid (hw.trans g3 (fun _ _ f => f))
  have HBN := hid hbn
  have HBE := hid hbe
  have HBR := hid hbr
  have HH := hid H
  have HND := hid hnd
  have HNM := hid hnm
  have e0 := cell_of_get hbe 0
  obtain ⟨an, cn, rfl, -⟩ := hnm.shape
  clear H hnd hnm g3 hbn hbe hbr hw
  go_enter Try.func50, Try.ntmps50
  by_cases k5 : k = 5
  · subst k5
    have hv := hid (show demF nl 5 t ns l (dems nl l) = DS.on t from rfl)
    have hcall := one_d W3 t
    have e1 := cell_of_get HBE.out 1
    clear h7 h8 h9
    go_upto_region 1 with (fail)
    rw [← hW3]
    clear hW3
    go_wp2_with (go_at_call 68; (with_reducible refine hcall.mono ?_); rintro e w4 ⟨v, rfl, hsd, hg4⟩; clear hcall; obtain ⟨b, A, rfl⟩ := hsd.shape; have hr4 := hg4.get HBR.out (fun f => f); obtain ⟨r0, r1⟩ := And.intro (cell_of_get hr4 0) (cell_of_get hr4 1); obtain ⟨x0, x1⟩ := And.intro (frozen_of_get hr4 0) (frozen_of_get hr4 1); have HSD := hid hsd; have HG4 := hid hg4; have HR4 := hid hr4; clear hsd hg4 hr4)
    exact bodyPost_ret (v := .agg #[.map (some b), .bool A]) (res81 Try.results50 _ _ (w.heap.size + 1 + 1) rfl (set2_heap HR4.out _ _)) rfl (dm_done (by rw [HDR.out, hv.out]; exact HSD.out) HG3.out.size (HG3.out.trans HG4.out (fun _ _ f => f)) HR4.out (by omega))
  by_cases k8 : k = 8
  · subst k8
    have hl3 := h8 rfl
    obtain ⟨x1, x2, x3, rfl⟩ : ∃ a b c, l = [a, b, c] := by
      match l, hl3 with
      | [a, b, c], _ => exact ⟨a, b, c, rfl⟩
    obtain ⟨g, o, rfl, hel⟩ := HH.out (by simp)
    obtain ⟨an1, cn1, aa1, ca1, he1, hc1⟩ := hel 0 x1 rfl
    obtain ⟨an2, cn2, aa2, ca2, he2, hc2⟩ := hel 1 x2 rfl
    obtain ⟨an3, cn3, aa3, ca3, he3, hc3⟩ := hel 2 x3 rfl
    rw [Nat.zero_mul, Nat.add_zero] at he1
    simp only [Nat.one_mul] at he2
    rw [show o + 2 * 4 = o + 8 by omega] at he3
    have hv := hid (show demF nl 8 t ns [x1, x2, x3] (dems nl [x1, x2, x3]) = (dem nl x1).un ((dem nl x2).mt (dem nl x3)) from rfl)
    have hg := HG03.out
    have HN0 := hid (cell_of_get HBN.out 0)
    have HE3 := hid (show W3.cell? ⟨w.heap.size + 1, 3, none⟩ = some (.slice (some ⟨g, o, none⟩) 3 cap) from cell_of_get HBE.out 3)
    have HC1 := hid (And.intro (hg.cell he1.c0 (fun f => f)) (And.intro (hg.cell he1.c1 (fun f => f)) (And.intro (hg.cell he1.c2 (fun f => f)) (hg.cell he1.c3 (fun f => f)))))
    have HC2 := hid (And.intro (hg.cell he2.c0 (fun f => f)) (And.intro (hg.cell he2.c1 (fun f => f)) (And.intro (hg.cell he2.c2 (fun f => f)) (hg.cell he2.c3 (fun f => f)))))
    have HC3 := hid (And.intro (hg.cell he3.c0 (fun f => f)) (And.intro (hg.cell he3.c1 (fun f => f)) (And.intro (hg.cell he3.c2 (fun f => f)) (hg.cell he3.c3 (fun f => f)))))
    have HD1 := hid (fun (W' : World) (k : Grew W3 W') => hc1 W' (hg.trans k (fun _ _ f => f)))
    have HD2 := hid (fun (W' : World) (k : Grew W3 W') => hc2 W' (hg.trans k (fun _ _ f => f)))
    have HD3 := hid (fun (W' : World) (k : Grew W3 W') => hc3 W' (hg.trans k (fun _ _ f => f)))
    simp only [List.length_cons, List.length_nil, Nat.zero_add] at hW3
    clear h7 h8 h9 hl3 hel he1 he2 he3 hc1 hc2 hc3 hg
    go_upto_region 1 with (fail)
    rw [← hW3]
    clear hW3
    go_wp2
    refine Rg.wp_region_facts 20 Grew [(14, Rg.Ex (.agg #[vN])), (15, Rg.Ex (.pointer (some ⟨w.heap.size + 1, 3, none⟩))), (16, Rg.Ex (.slice (some ⟨g, o, none⟩) 3 cap)), (17, Rg.Ex (.pointer (some ⟨g, o, none⟩))), (18, Rg.Ex (.agg #[Kv x1.kind, St x1.text, .slice an1 x1.names.length cn1, .slice aa1 x1.parts.length ca1])), (19, FS8 W3.heap.size (dem nl x1)), (20, Rg.Ex (.agg #[vN])), (21, Rg.Ex (.pointer (some ⟨w.heap.size + 1, 3, none⟩))), (22, Rg.Ex (.slice (some ⟨g, o, none⟩) 3 cap)), (23, Rg.Ex (.pointer (some ⟨g, o + 4, none⟩))), (24, Rg.Ex (.agg #[Kv x2.kind, St x2.text, .slice an2 x2.names.length cn2, .slice aa2 x2.parts.length ca2])), (25, FS8 W3.heap.size (dem nl x2)), (26, Rg.Ex (.agg #[vN])), (27, Rg.Ex (.pointer (some ⟨w.heap.size + 1, 3, none⟩))), (28, Rg.Ex (.slice (some ⟨g, o, none⟩) 3 cap)), (29, Rg.Ex (.pointer (some ⟨g, o + 8, none⟩))), (30, Rg.Ex (.agg #[Kv x3.kind, St x3.text, .slice an3 x3.names.length cn3, .slice aa3 x3.parts.length ca3])), (31, FS8 W3.heap.size (dem nl x3)), (32, FS8 W3.heap.size ((dem nl x2).mt (dem nl x3))), (33, FS8 W3.heap.size ((dem nl x1).un ((dem nl x2).mt (dem nl x3))))] (by kernel_rfl) (by kernel_rfl) (by rfl) (by rfl)
      (fun a => Fr.refl _ a) (fun a b c h k => h.trans k (fun _ _ f => f)) (Fr.refl _ _).drew
      (Rg.Stays.all ⟨Rg.Ex.stays _, Rg.Ex.stays _, Rg.Ex.stays _, Rg.Ex.stays _, Rg.Ex.stays _, FS8.stays _ _, Rg.Ex.stays _, Rg.Ex.stays _, Rg.Ex.stays _, Rg.Ex.stays _, Rg.Ex.stays _, FS8.stays _ _, Rg.Ex.stays _, Rg.Ex.stays _, Rg.Ex.stays _, Rg.Ex.stays _, Rg.Ex.stays _, FS8.stays _ _, FS8.stays _ _, FS8.stays _ _, trivial⟩) ?_ ?_
    · go_light
      refine Rg.OpGoals.cons (Rg.OpGoal.plain rfl ?_) (Rg.OpGoals.cons (Rg.OpGoal.plain rfl ?_) (Rg.OpGoals.cons (Rg.OpGoal.plain rfl ?_) (Rg.OpGoals.cons (Rg.OpGoal.plain rfl ?_) (Rg.OpGoals.cons (Rg.OpGoal.plain rfl ?_) (Rg.OpGoals.cons (Rg.OpGoal.plain rfl ?_) (Rg.OpGoals.cons (Rg.OpGoal.plain rfl ?_) (Rg.OpGoals.cons (Rg.OpGoal.plain rfl ?_) (Rg.OpGoals.cons (Rg.OpGoal.plain rfl ?_) (Rg.OpGoals.cons (Rg.OpGoal.plain rfl ?_) (Rg.OpGoals.cons (Rg.OpGoal.plain rfl ?_) (Rg.OpGoals.cons (Rg.OpGoal.plain rfl ?_) (Rg.OpGoals.cons (Rg.OpGoal.plain rfl ?_) (Rg.OpGoals.cons (Rg.OpGoal.plain rfl ?_) (Rg.OpGoals.cons (Rg.OpGoal.plain rfl ?_) (Rg.OpGoals.cons (Rg.OpGoal.plain rfl ?_) (Rg.OpGoals.cons (Rg.OpGoal.plain rfl ?_) (Rg.OpGoals.cons (Rg.OpGoal.plain rfl ?_) (Rg.OpGoals.cons (Rg.OpGoal.plain rfl ?_) (Rg.OpGoals.cons (Rg.OpGoal.plain rfl ?_) Rg.OpGoals.none)))))))))))))))))))
      all_goals (intro a' w' hS hR; simp [Rg.Rd, Op.operands, Call.operands, Rg.Fk, Rg.Ex] at hR)
      all_goals (have n0' := hS.cell HN0.out (fun f => f))
      all_goals (have e3' := hS.cell HE3.out (fun f => f))
      all_goals (have c10' := hS.cell HC1.out.1 (fun f => f))
      all_goals (have c11' := hS.cell HC1.out.2.1 (fun f => f))
      all_goals (have c12' := hS.cell HC1.out.2.2.1 (fun f => f))
      all_goals (have c13' := hS.cell HC1.out.2.2.2 (fun f => f))
      all_goals (have c20' := hS.cell HC2.out.1 (fun f => f))
      all_goals (have c21' := hS.cell HC2.out.2.1 (fun f => f))
      all_goals (have c22' := hS.cell HC2.out.2.2.1 (fun f => f))
      all_goals (have c23' := hS.cell HC2.out.2.2.2 (fun f => f))
      all_goals (have c30' := hS.cell HC3.out.1 (fun f => f))
      all_goals (have c31' := hS.cell HC3.out.2.1 (fun f => f))
      all_goals (have c32' := hS.cell HC3.out.2.2.1 (fun f => f))
      all_goals (have c33' := hS.cell HC3.out.2.2.2 (fun f => f))
      all_goals try (simp [Rg.Yields, execOp, Act.eval, hR, n0', e3', c10', c11', c12', c13', c20', c21', c22', c23', c30', c31', c32', c33', go_sem, Rg.Fk, Rg.Ex, Fr.refl]; done)
      · simp [Rg.Yields, Act.eval, hR, go_sem, Rg.Fk, Rg.Ex]
        refine (HD1.out _ hS).mono ?_
        rintro e w2 ⟨r, rfl, h1, h2⟩
        exact ⟨r, rfl, h1.mono hS.size, h2⟩
      · simp [Rg.Yields, Act.eval, hR, go_sem, Rg.Fk, Rg.Ex]
        refine (HD2.out _ hS).mono ?_
        rintro e w2 ⟨r, rfl, h1, h2⟩
        exact ⟨r, rfl, h1.mono hS.size, h2⟩
      · simp [Rg.Yields, Act.eval, hR, go_sem, Rg.Fk, Rg.Ex]
        refine (HD3.out _ hS).mono ?_
        rintro e w2 ⟨r, rfl, h1, h2⟩
        exact ⟨r, rfl, h1.mono hS.size, h2⟩
      · obtain ⟨h1, h2⟩ := hR
        obtain ⟨b1, A1, e1⟩ := SD.shape h1
        obtain ⟨b2, A2, e2⟩ := SD.shape h2
        have h1' : SD w' _ _ _ := h1
        have h2' : SD w' _ _ _ := h2
        rw [e1] at h1'
        rw [e2] at h2'
        simp [Rg.Yields, Act.eval, e1, e2, go_sem, Rg.Fk, Rg.Ex]
        refine (both_d h1' h2' hS.size).mono ?_
        rintro e w2 ⟨r, rfl, h3, h4⟩
        exact ⟨r, rfl, h3, h4⟩
      · obtain ⟨h1, h2⟩ := hR
        obtain ⟨b1, A1, e1⟩ := SD.shape h1
        obtain ⟨b2, A2, e2⟩ := SD.shape h2
        have h1' : SD w' _ _ _ := h1
        have h2' : SD w' _ _ _ := h2
        rw [e1] at h1'
        rw [e2] at h2'
        simp [Rg.Yields, Act.eval, e1, e2, go_sem, Rg.Fk, Rg.Ex]
        refine (together_d h1' h2').mono ?_
        rintro e w2 ⟨r, rfl, h3, h4⟩
        exact ⟨r, rfl, h3.mono hS.size, h4⟩
    · intro w5 hS
      rintro _ rfl _ rfl _ rfl _ rfl _ rfl v19 h19 _ rfl _ rfl _ rfl _ rfl _ rfl v25 h25 _ rfl _ rfl _ rfl _ rfl _ rfl v31 h31 v32 h32 v33 h33
      refine Rg.Then.nil ?_
      clear h19 h25 h31 h32
      obtain ⟨b, A, rfl⟩ := SD.shape h33
      have HSD := hid (show SD w5 W3.heap.size (.agg #[.map (some b), .bool A]) ((dem nl x1).un ((dem nl x2).mt (dem nl x3))) from h33)
      have hr4 := hS.get HBR.out (fun f => f)
      obtain ⟨r0, r1⟩ := And.intro (cell_of_get hr4 0) (cell_of_get hr4 1)
      obtain ⟨x0', x1'⟩ := And.intro (frozen_of_get hr4 0) (frozen_of_get hr4 1)
      have HG4 := hid hS
      have HR4 := hid hr4
      clear h33 hr4 hS
      go_wp2
      exact bodyPost_ret (v := .agg #[.map (some b), .bool A]) (res81 Try.results50 _ _ (w.heap.size + 1 + 1) rfl (set2_heap HR4.out _ _)) rfl (dm_done (by rw [HDR.out, hv.out]; exact HSD.out) HG3.out.size (HG3.out.trans HG4.out (fun _ _ f => f)) HR4.out (by omega))
  by_cases k7 : k = 7
  · subst k7
    obtain ⟨x0, r, rfl⟩ : ∃ x r, l = x :: r := by
      cases l with
      | nil => exact absurd rfl (h7 rfl)
      | cons x r => exact ⟨x, r, rfl⟩
    have hv := hid (show demF nl 7 t ns (x0 :: r) (dems nl (x0 :: r)) = (if (ofs nl x0.kind x0.text).length ≤ (dems nl r).length then (dem nl x0).un (unl (pick (ofs nl x0.kind x0.text) (dems nl r))) else dem nl x0) from rfl)
    have hcall := app_core (cap := cap) HH.out hl HND.out W3 HG03.out 7 t (.slice an ns.length cn)
    rw [← dems_length nl r] at hcall
    obtain ⟨dA, hdA⟩ : ∃ d, d = (if (ofs nl x0.kind x0.text).length ≤ (dems nl r).length then (dem nl x0).un (unl (pick (ofs nl x0.kind x0.text) (dems nl r))) else dem nl x0) := ⟨_, rfl⟩
    rw [← hdA] at hcall hv
    rw [dems_length nl r] at hcall
    clear hdA
    rw [List.length_cons] at hW3
    replace HBE : Hid (W3.heap[w.heap.size + 1]? = some (.cells #[Kv 7, St t, .slice an ns.length cn, .slice av (r.length + 1) cap] 28 (0, 0))) := HBE
    have HB4 := hid (And.intro (cell_of_get HBE.out 1) (And.intro (cell_of_get HBE.out 2) (cell_of_get HBE.out 3)))
    obtain ⟨e1, e2, e3⟩ := HB4.out
    have n0 := cell_of_get HBN.out 0
    clear h7 h8 h9
    go_upto_region 1 with (fail)
    rw [← hW3]
    clear hW3
    go_wp2_with (go_at_call 71; (with_reducible refine hcall.mono ?_); rintro e w4 ⟨v, rfl, hsd, hg4⟩; clear hcall; obtain ⟨b, A, rfl⟩ := hsd.shape; have hr4 := hg4.get HBR.out (fun f => f); obtain ⟨r0, r1⟩ := And.intro (cell_of_get hr4 0) (cell_of_get hr4 1); obtain ⟨x0', x1'⟩ := And.intro (frozen_of_get hr4 0) (frozen_of_get hr4 1); have HSD := hid hsd; have HG4 := hid hg4; have HR4 := hid hr4; clear hsd hg4 hr4)
    exact bodyPost_ret (v := .agg #[.map (some b), .bool A]) (res81 Try.results50 _ _ (w.heap.size + 1 + 1) rfl (set2_heap HR4.out _ _)) rfl (dm_done (by rw [HDR.out, hv.out]; exact HSD.out) HG3.out.size (HG3.out.trans HG4.out (fun _ _ f => f)) HR4.out (by omega))
  by_cases k9 : k = 9
  · subst k9
    have hl9 := h9 rfl
    obtain ⟨y, hy⟩ := at_of_lt (l := l) (i := ns.length) (by omega)
    have hv := hid (show demF nl 9 t ns l (dems nl l) = letD (dem nl y) (ns.zip (dems nl l)) by
      show letD (((dems nl l)[ns.length]?).getD DS.no) _ = _
      rw [dems_get nl hy]; rfl)
    have hcall := let_core (cap := cap) HH.out hl9 (by omega) hy W3 HG03.out 9 t (.slice an ns.length cn) HNM.out
    rw [← hl9] at hcall
    clear hl9 hy
    have HB4 := hid (And.intro (cell_of_get HBE.out 1) (And.intro (cell_of_get HBE.out 2) (cell_of_get HBE.out 3)))
    obtain ⟨e1, e2, e3⟩ := HB4.out
    have n0 := cell_of_get HBN.out 0
    clear h7 h8 h9
    go_upto_region 1 with (fail)
    rw [← hW3]
    clear hW3
    go_wp2_with (go_at_call 72; (with_reducible refine hcall.mono ?_); rintro e w4 ⟨v, rfl, hsd, hg4⟩; clear hcall; obtain ⟨b, A, rfl⟩ := hsd.shape; have hr4 := hg4.get HBR.out (fun f => f); obtain ⟨r0, r1⟩ := And.intro (cell_of_get hr4 0) (cell_of_get hr4 1); obtain ⟨x0', x1'⟩ := And.intro (frozen_of_get hr4 0) (frozen_of_get hr4 1); have HSD := hid hsd; have HG4 := hid hg4; have HR4 := hid hr4; clear hsd hg4 hr4)
    exact bodyPost_ret (v := .agg #[.map (some b), .bool A]) (res81 Try.results50 _ _ (w.heap.size + 1 + 1) rfl (set2_heap HR4.out _ _)) rfl (dm_done (by rw [HDR.out, hv.out]; exact HSD.out) HG3.out.size (HG3.out.trans HG4.out (fun _ _ f => f)) HR4.out (by omega))
  by_cases k10 : k = 10
  · subst k10
    clear h7 h8 h9
    by_cases te : t = [101, 114, 114, 111, 114]
    · subst te
      have hv := hid (show demF nl 10 [101, 114, 114, 111, 114] ns l (dems nl l) = DS.ev from rfl)
      have e1 := cell_of_get HBE.out 1
      obtain ⟨r0, r1⟩ := And.intro (cell_of_get HBR.out 0) (cell_of_get HBR.out 1)
      obtain ⟨x0', x1'⟩ := And.intro (frozen_of_get HBR.out 0) (frozen_of_get HBR.out 1)
      have mk1 := mk79
      have hlt3 := lt_of_get HBR.out
      go_upto_region 1 with (fail)
      rw [← hW3]
      clear hW3
      go_wp2
      have hf2 := set2_fr W3 (w.heap.size + 1 + 1) (.map (some W3.heap.size)) (.bool true)
      have hh2 := set2_heap HBR.out (.map (some W3.heap.size)) (.bool true)
      have hsz : (set2 W3 (w.heap.size + 1 + 1) (.map (some W3.heap.size)) (.bool true)).heap.size = W3.heap.size := by simp [World.setCell]
      have ha := (Fr.refl (fun _ => False) (set2 W3 (w.heap.size + 1 + 1) (.map (some W3.heap.size)) (.bool true))).alloc (.map #[] 0)
      have hmn := heap_alloc_new (set2 W3 (w.heap.size + 1 + 1) (.map (some W3.heap.size)) (.bool true)) (.map #[] 0)
      rw [hsz] at hmn
      exact bodyPost_ret (v := .agg #[.map (some W3.heap.size), .bool true]) (res81 Try.results50 _ _ (w.heap.size + 1 + 1) rfl (ha.get hh2 (fun f => f))) rfl ⟨_, rfl, ⟨true, fun _ => False, ⟨_, rfl, HG3.out.size, mps_new hmn, fun _ _ z => z⟩, by rw [HDR.out, hv.out]; simp [DS.ev], fun z => by cases z⟩, (HG3.out.trans hf2 (fun c hc e => by omega)).trans ha (fun _ _ f => f)⟩
    by_cases tc : t = [99, 111, 110, 115]
    · subst tc
      have hv := hid (show demF nl 10 [99, 111, 110, 115] ns l (dems nl l) = DS.no from rfl)
      have hcall := none_d W3
      have e1 := cell_of_get HBE.out 1
      clear te
      go_upto_region 1 with (fail)
      rw [← hW3]
      clear hW3
      go_wp2_with (go_at_call 73; (with_reducible refine hcall.mono ?_); rintro e w4 ⟨v, rfl, hsd, hg4⟩; clear hcall; obtain ⟨b, A, rfl⟩ := hsd.shape; have hr4 := hg4.get HBR.out (fun f => f); obtain ⟨r0, r1⟩ := And.intro (cell_of_get hr4 0) (cell_of_get hr4 1); obtain ⟨x0', x1'⟩ := And.intro (frozen_of_get hr4 0) (frozen_of_get hr4 1); have HSD := hid hsd; have HG4 := hid hg4; have HR4 := hid hr4; clear hsd hg4 hr4)
      exact bodyPost_ret (v := .agg #[.map (some b), .bool A]) (res81 Try.results50 _ _ (w.heap.size + 1 + 1) rfl (set2_heap HR4.out _ _)) rfl (dm_done (by rw [HDR.out, hv.out]; exact HSD.out) HG3.out.size (HG3.out.trans HG4.out (fun _ _ f => f)) HR4.out (by omega))
    have hv := hid (show demF nl 10 t ns l (dems nl l) = unl (dems nl l) from by
      show (if t = _ then _ else if t = _ then _ else _) = _
      rw [if_neg te, if_neg tc])
    have te2 : (t == [101, 114, 114, 111, 114]) = false := by simpa using te
    have tc2 : (t == [99, 111, 110, 115]) = false := by simpa using tc
    have hcall := each_core (cap := cap) HH.out hl W3 HG03.out
    have e1 := cell_of_get HBE.out 1
    have e3 := cell_of_get HBE.out 3
    have n0 := cell_of_get HBN.out 0
    go_upto_region 1 with (fail)
    rw [← hW3]
    clear hW3
    go_wp2_with (go_at_call 74; (with_reducible refine hcall.mono ?_); rintro e w4 ⟨v, rfl, hsd, hg4⟩; clear hcall; obtain ⟨b, A, rfl⟩ := hsd.shape; have hr4 := hg4.get HBR.out (fun f => f); obtain ⟨r0, r1⟩ := And.intro (cell_of_get hr4 0) (cell_of_get hr4 1); obtain ⟨x0', x1'⟩ := And.intro (frozen_of_get hr4 0) (frozen_of_get hr4 1); have HSD := hid hsd; have HG4 := hid hg4; have HR4 := hid hr4; clear hsd hg4 hr4)
    exact bodyPost_ret (v := .agg #[.map (some b), .bool A]) (res81 Try.results50 _ _ (w.heap.size + 1 + 1) rfl (set2_heap HR4.out _ _)) rfl (dm_done (by rw [HDR.out, hv.out]; exact HSD.out) HG3.out.size (HG3.out.trans HG4.out (fun _ _ f => f)) HR4.out (by omega))
  have hv := hid (show demF nl k t ns l (dems nl l) = DS.no from by
    show (if k = 5 then _ else _) = _
    rw [if_neg k5, if_neg k8, if_neg k7, if_neg k9, if_neg k10])
  have hcall := none_d W3
  
  clear h7 h8 h9
  go_upto_region 1 with (fail)
  rw [← hW3]
  clear hW3
  go_wp2_with (go_at_call 73; (with_reducible refine hcall.mono ?_); rintro e w4 ⟨v, rfl, hsd, hg4⟩; clear hcall; obtain ⟨b, A, rfl⟩ := hsd.shape; have hr4 := hg4.get HBR.out (fun f => f); obtain ⟨r0, r1⟩ := And.intro (cell_of_get hr4 0) (cell_of_get hr4 1); obtain ⟨x0', x1'⟩ := And.intro (frozen_of_get hr4 0) (frozen_of_get hr4 1); have HSD := hid hsd; have HG4 := hid hg4; have HR4 := hid hr4; clear hsd hg4 hr4)
  exact bodyPost_ret (v := .agg #[.map (some b), .bool A]) (res81 Try.results50 _ _ (w.heap.size + 1 + 1) rfl (set2_heap HR4.out _ _)) rfl (dm_done (by rw [HDR.out, hv.out]; exact HSD.out) HG3.out.size (HG3.out.trans HG4.out (fun _ _ f => f)) HR4.out (by omega))

/-- a term of which what it demands may be asked -/
inductive So : X → Prop
  | mk (k : Int) (t : Str) (ns : List Str) (a : List X) (h7 : k = 7 → a ≠ []) (h8 : k = 8 → a.length = 3) (h9 : k = 9 → a.length = ns.length + 1) (ha : a.length ≤ 1000000) (h : ∀ x ∈ a, So x) : So (.mk k t ns a)

theorem dem_row {w0 : World} {vN : Value} {nl : Ned} (hnd : Nd w0 (fun _ => False) vN nl) {v : Value} {l : List X} (h : Row w0 (fun b => w0.heap.size ≤ b) v l) : (∀ x ∈ l, So x) → l.length ≤ 1000000 → ∀ w, Grew w0 w → ∀ (k : Int) (t : Str) (vn : Value) (ns : List Str), Nm w0 (fun b => w0.heap.size ≤ b) vn ns →
    (k = 7 → l ≠ []) → (k = 8 → l.length = 3) → (k = 9 → l.length = ns.length + 1) → Calls Try.prog 50 #[.agg #[vN], .agg #[Kv k, St t, vn, v]] w (DmPost w (dem nl (.mk k t ns l))) := by
  refine Row.ind (P := fun v l => (∀ x ∈ l, So x) → l.length ≤ 1000000 → ∀ w, Grew w0 w → ∀ (k : Int) (t : Str) (vn : Value) (ns : List Str), Nm w0 (fun b => w0.heap.size ≤ b) vn ns →
    (k = 7 → l ≠ []) → (k = 8 → l.length = 3) → (k = 9 → l.length = ns.length + 1) → Calls Try.prog 50 #[.agg #[vN], .agg #[Kv k, St t, vn, v]] w (DmPost w (dem nl (.mk k t ns l)))) ?_ ?_ h
  · intro ad cap _ hl w hw k t vn ns hn h7 h8 h9
    exact dem_core (D := fun b => w0.heap.size ≤ b) (l := []) (fun e => absurd rfl e) hnd hl w hw k t vn ns hn h7 h8 h9
  · intro l g o cap _ _ _ H hs hl w hw k t vn ns hn h7 h8 h9
    refine dem_core (D := fun b => w0.heap.size ≤ b) (fun _ => ⟨g, o, rfl, fun i x hx => ?_⟩) hnd hl w hw k t vn ns hn h7 h8 h9
    obtain ⟨an, cn, aa, ca, he, hc⟩ := H i x hx
    refine ⟨an, cn, aa, ca, he, fun w2 hg => ?_⟩
    have hso := hs x (List.mem_of_getElem? hx)
    cases hso with
    | mk k t ns a h7 h8 h9 ha h => exact hc h ha w2 hg k t _ ns he.nm h7 h8 h9
/-- demands -/
theorem dem_any {w0 : World} {vN : Value} {nl : Ned} (hnd : Nd w0 (fun _ => False) vN nl) {e : Value} {x : X} (h : Rd w0 (fun _ => False) e x) (hx : So x) (w : World) (hw : Grew w0 w) : Calls Try.prog 50 #[.agg #[vN], e] w (DmPost w (dem nl x)) := by
  obtain ⟨vn, va, rfl, hn, hr⟩ := h.mono (E := fun b => w0.heap.size ≤ b) (fun b hb q => by omega)
  cases hx with
  | mk k t ns a h7 h8 h9 ha hso => exact dem_row hnd hr hso ha w hw k t vn ns hn h7 h8 h9
end Go.Proofs.Ytddcfnjmppijjaa

/-! What the maker makes may be asked what it demands. -/
namespace Go.Proofs.Ytddcfnjmppijjaa
open Go.RowKit

theorem good_so {S : List Str} {x : X} (h : Good S x) : So x := by
  induction h with
  | int S t ht => exact .mk _ _ _ _ (by simp) (by simp) (by simp) (by simp) (by simp)
  | bool S t ht => exact .mk _ _ _ _ (by simp) (by simp) (by simp) (by simp) (by simp)
  | nil S => exact .mk _ _ _ _ (by simp) (by simp) (by simp) (by simp) (by simp)
  | sym S => exact .mk _ _ _ _ (by simp) (by simp) (by simp) (by simp) (by simp)
  | var S s hs => exact .mk _ _ _ _ (by simp) (by simp) (by simp) (by simp) (by simp)
  | lam S ns x h0 h1 h2 h3 hx ih => exact .mk _ _ _ _ (by simp) (by simp) (by simp) (by simp) (by simpa using ih)
  | app S a h1 h2 ha ih => exact .mk _ _ _ _ (fun _ e => by rw [e] at h1; simp at h1) (by simp) (by simp) (by omega) (fun x hx => ih x hx)
  | iff S a h1 ha ih => exact .mk _ _ _ _ (by simp) (fun _ => h1) (by simp) (by omega) (fun x hx => ih x hx)
  | lets S ns a h0 h1 h2 h3 hl ha ih => exact .mk _ _ _ _ (by simp) (by simp) (fun _ => hl) (by omega) (fun x hx => ih x hx)
  | prim S t a ht ha ih => exact .mk _ _ _ _ (by simp) (by simp) (by simp) (by rcases ht with ⟨_, h⟩ | ⟨_, h⟩ <;> omega) (fun x hx => ih x hx)
theorem So.parts {x : X} (h : So x) : ∀ y ∈ x.parts, So y := by
  cases h with
  | mk k t ns a _ _ _ _ h => exact h

set_option maxHeartbeats 4000000 in
set_option maxRecDepth 100000 in
/-- thunkref8.find -/
theorem find_any {w : World} {D : Nat → Prop} {ad : Option Addr} {cap : Nat} {l : Ned} (h : Nd w D (.slice ad l.length cap) l) (s : Str) :
    Calls Try.prog 95 #[.slice ad l.length cap, .string ⟨s.toArray⟩] w fun e w' => ∃ r, e = .returned r ∧ Grew w w' ∧ ((r = .pointer none ∧ ∀ m ∈ l, m.1 ≠ s) ∨ ∃ i n g o, l[i]? = some n ∧ n.1 = s ∧ (∀ m ∈ l.take i, m.1 ≠ s) ∧ ad = some ⟨g, o, none⟩ ∧ r = .pointer (some ⟨g, o + i * 2, none⟩)) := by
  obtain ⟨ad', cap', e, h1, h2, h3⟩ := h
  simp only [Value.slice.injEq] at e
  obtain ⟨rfl, -, rfl⟩ := e
  replace h2 : cap ≤ 9223372036854775807 := h2
  have HH := hid h3
  clear h3
  go_enter Try.func95, Try.ntmps95
  go_wp2
  go_loopw [5] (fun b wr => ∃ j : Nat, j ≤ l.length ∧ b = .int .i64 j ∧ Grew w wr ∧ ∀ m ∈ l.take j, m.1 ≠ s) (fun i _ => l.length - (intOf i).toNat)
  case atStart => exact ⟨0, Nat.zero_le _, rfl, Fr.refl _ _, by simp⟩
  case round =>
    obtain ⟨j, hj, rfl, hgr, hno⟩ := hrel
    have HNO := hid hno
    have HGR := hid hgr
    clear hno
    by_cases hlt : j < l.length
    · obtain ⟨n, hn⟩ := at_of_lt hlt
      obtain ⟨g, o, rfl, -, hel⟩ := HH.out.resolve_left (fun e => by rw [e] at hlt; simp at hlt)
      have k1 := hgr.cell (hel j n hn).1 (fun f => f)
      have HN := hid hn
      clear hel hgr hn
      by_cases hnt : n.1 = s
      · have HT := hid hnt
        rw [hnt] at k1
        clear hnt
        go_wp2
        go_ret
        exact ⟨_, rfl, HGR.out, .inr ⟨j, n, g, o, HN.out, HT.out, HNO.out, rfl, rfl⟩⟩
      · have hne2 : (n.1 == s) = false := by simpa using hnt
        have HT := hid (show ∀ m ∈ l.take (j + 1), m.1 ≠ s from fun m hm => by
          rw [List.take_add_one, HN.out] at hm
          rcases List.mem_append.1 hm with q | q
          · exact HNO.out m q
          · simp at q; rw [q]; exact hnt)
        clear hnt
        go_wp2
        go_roundw
        case rel => exact ⟨j + 1, by omega, by go_num, HGR.out, HT.out⟩
        case measure => simp [intOf]; omega
    · obtain rfl : j = l.length := by omega
      clear hgr
      go_wp2
      go_ret
      exact ⟨_, rfl, HGR.out, .inl ⟨rfl, fun m hm => HNO.out m (by rwa [List.take_length])⟩⟩
end Go.Proofs.Ytddcfnjmppijjaa
