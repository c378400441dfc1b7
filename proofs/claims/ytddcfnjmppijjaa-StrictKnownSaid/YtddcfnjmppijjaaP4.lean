import Derived.Test.YtddcfnjmppijjaaP3
import Derived.Test.YtddcfnjmppijjaaM7
import Derived.Maps.RangeRun
/-! core.Free: the names that are free, in order. -/
namespace Go.Proofs.Ytddcfnjmppijjaa
open Go.RowKit Go.MapKept Go.ChangeMaps

theorem free_row {w : World} {D : Nat → Prop} {v : Value} {l : List X} (h : Row w D v l) : FreeAt w D v l := by
  refine Row.ind (P := FreeAt w D) ?_ ?_ h
  · intro ad cap
    show FreeAt w D (.slice ad ([] : List X).length cap) []
    exact free_core (fun e => absurd rfl e)
  · intro l g o cap _ _ hD H
    exact free_core (fun _ => ⟨g, o, rfl, hD, H⟩)

theorem nodup_len {l m : List Str} (h : l.Nodup) (hs : ∀ s ∈ l, s ∈ m) : l.length ≤ m.length := by
  induction l generalizing m with
  | nil => simp
  | cons x r ih =>
    have hx := hs x (by simp)
    have h1 := List.nodup_cons.1 h
    have h2 := ih h1.2 (m := m.erase x) (fun s q => (List.mem_erase_of_ne (fun e => h1.1 (by rw [← e]; exact q))).2 (hs s (by simp [q])))
    rw [List.length_erase_of_mem hx] at h2
    have : 0 < m.length := List.length_pos_of_mem hx
    simp; omega

mutual
theorem fv_len : ∀ x : X, x.fv.length ≤ x.size
  | .mk k t ns a => by
    have h1 := fvs_len a
    have h2 : ((fvs a).filter (fun s => !decide (s ∈ ns))).length ≤ (fvs a).length := List.length_filter_le _ _
    simp only [X.fv, X.size, List.length_append]
    split <;> simp <;> omega
theorem fvs_len : ∀ l : List X, (fvs l).length ≤ sizes l
  | [] => by simp [fvs, sizes]
  | x :: r => by
    have h1 := fv_len x
    have h2 := fvs_len r
    simp only [fvs, sizes, List.length_append]
    omega
end

/-- what Free leaves: the names, each once, in order -/
def FnPost (w : World) (x : X) (e : Ending) (w' : World) : Prop := ∃ v ks, e = .returned v ∧ Rt w.heap.size w' v (srt ks) ∧ ks.Nodup ∧ (∀ s, s ∈ ks ↔ s ∈ x.fv) ∧ Grew w w'

/-- the names that were handed out -/
structure KS (W6 : World) (r ob clock : Nat) (es : Array MapEntry) (vL : Value) (ks : List Str) (seen : Array Nat) (wr : World) : Prop where
  keep : Fr (fun c => c = r) W6 wr
  row : Rt W6.heap.size wr vL ks
  it : ∃ c0, wr.heap[r]? = some (.mapIter (some ob) clock seen c0) ∧ clock ≤ c0
  mp : wr.heap[ob]? = some (.map es clock)
  nd : ks.Nodup
  mem : ∀ s, s ∈ ks ↔ ∃ e ∈ es.toList, e.key = St s ∧ seen.contains e.born = true

theorem setBlock_fr (w : World) (b : Nat) (o : Obj) : Fr (fun c => c = b) w (setBlock w b o) :=
  ⟨rfl, rfl, rfl, by simp [setBlock], fun k _ hn => by
    simp only [setBlock]
    rw [Array.getElem?_setIfInBounds_ne (fun e => hn e.symm)]⟩
theorem setBlock_get {w : World} {b : Nat} (h : b < w.heap.size) (o : Obj) : (setBlock w b o).heap[b]? = some o := by
  simp [setBlock, h]

/-- one more is handed out -/
theorem KS.step {W6 : World} {r ob clock : Nat} {es : Array MapEntry} {vL : Value} {ks : List Str} {seen : Array Nat} {wr w1 : World} (h : KS W6 r ob clock es vL ks seen wr) (hst : Stamped es clock) (hkey : ∀ x ∈ es.toList, ∃ s, x.key = St s)
    (hr : r < W6.heap.size) (hob : ob < W6.heap.size) (hne : ob ≠ r) (hl : ks.length ≤ 900000) {e : MapEntry} (he : e ∈ (leftOf es seen).toList) (hw1 : w1 = wr ∨ w1 = wr.drew) (ty : TypeId) :
    ∃ s v1 w6, e.key = St s ∧ (Instr.entry (.pointer (some ⟨r, 0, none⟩))).run Try.prog (setBlock w1 r (.mapIter (some ob) clock (seen.push e.born) clock)) = .ok (.tuple #[St s, e.val]) (setBlock w1 r (.mapIter (some ob) clock (seen.push e.born) clock)) ∧
      (Builtin.append_ #[25, 25] ty #[vL, .slice (some ⟨(setBlock w1 r (.mapIter (some ob) clock (seen.push e.born) clock)).heap.size, 0, none⟩) 1 1]).run Try.prog ((setBlock w1 r (.mapIter (some ob) clock (seen.push e.born) clock)).alloc (.cells #[St s] 9)) = .ok v1 w6 ∧ (∃ a m c, v1 = .slice a m c) ∧
      KS W6 r ob clock es v1 (ks ++ [s]) (seen.push e.born) w6 ∧ w6.iterSeen r = seen.push e.born := by
  obtain ⟨keep, row, ⟨c0, it, hc0⟩, mp, nd, mem⟩ := h
  obtain ⟨hmem, hns⟩ := mem_left he
  obtain ⟨s, hs⟩ := hkey e hmem
  have hg1 : Grew wr w1 := by
    rcases hw1 with rfl | rfl
    · exact Fr.refl _ _
    · exact (Fr.refl _ _).drew
  have hsz := keep.size
  have hs1 := hg1.size
  have hsb := setBlock_fr w1 r (.mapIter (some ob) clock (seen.push e.born) clock)
  have hsg := setBlock_get (w := w1) (b := r) (by omega) (.mapIter (some ob) clock (seen.push e.born) clock)
  have hmp := hsb.get (hg1.get mp (fun f => f)) hne
  have hen := run_entry_at (P := Try.prog) (setBlock w1 r (.mapIter (some ob) clock (seen.push e.born) clock)) r ob clock seen es clock e hsg hmp hmem ((stamped_iff es clock).1 hst).2.1
  rw [hs] at hen
  have hF : Fr (fun c => c = r) wr (setBlock w1 r (.mapIter (some ob) clock (seen.push e.born) clock)) := (Grew.any hg1).trans hsb (fun _ _ e => e)
  generalize setBlock w1 r (.mapIter (some ob) clock (seen.push e.born) clock) = w2 at *
  have hs2 := hF.size
  have hrow := rt_kept row hF (fun g hg e => by have := (row.lt g hg).1; omega)
  have hg5 : Grew w2 (w2.alloc (.cells #[St s] 9)) := (Fr.refl _ _).alloc _
  obtain ⟨v1, w6, hrun, hn3, hf6, ho3⟩ := app_rt (rt_kept hrow hg5 (fun _ _ f => f)) (by simp; omega) (nm_one w2 s _ rfl) (by simp; omega) ty
  obtain ⟨a1, c1, e1, -⟩ := hn3.shape
  have hf26 : Fr (fun c => vL.ownBlock = some c) w2 w6 := (Grew.any hg5).trans hf6 (fun _ _ e => e)
  have hown : ∀ c, c < W6.heap.size → ¬ vL.ownBlock = some c := fun c hc e => by have := (row.lt c e).1; omega
  have hit := hf26.get hsg (hown r hr)
  refine ⟨s, v1, w6, hs, hen, hrun, ⟨a1, _, c1, e1⟩, ⟨?_, hn3, ⟨clock, hit, Nat.le_refl _⟩, hf26.get hmp (hown ob hob), ?_, ?_⟩, by unfold World.iterSeen; rw [hit]⟩
  · exact (keep.trans hF (fun _ _ e => e)).trans hf26 (fun c hc e => absurd e (hown c hc))
  · rw [List.nodup_append]
    refine ⟨nd, by simp, fun a ha b hb e => ?_⟩
    simp at hb
    subst hb; subst e
    obtain ⟨y, hy, hk, hc⟩ := (mem a).1 ha
    have hp := ((stamped_iff es clock).1 hst).2.2
    have : y = e := by
      obtain ⟨i, hi⟩ := List.mem_iff_getElem?.1 hy
      obtain ⟨j, hj⟩ := List.mem_iff_getElem?.1 hmem
      rw [List.pairwise_iff_getElem] at hp
      obtain ⟨l1, g1⟩ := List.getElem?_eq_some_iff.1 hi
      obtain ⟨l2, g2⟩ := List.getElem?_eq_some_iff.1 hj
      rcases Nat.lt_trichotomy i j with q | q | q
      · exact absurd (by rw [g1, g2, hk, hs]) (hp i j l1 l2 q)
      · subst q; rw [← g1, ← g2]
      · exact absurd (by rw [g1, g2, hk, hs]) (hp j i l2 l1 q)
    subst this
    rw [hns] at hc; cases hc
  · intro u
    rw [List.mem_append, List.mem_singleton, mem u]
    constructor
    · rintro (⟨y, hy, hk, hc⟩ | rfl)
      · exact ⟨y, hy, hk, by rw [contains_push, hc]; rfl⟩
      · exact ⟨e, hmem, hs, by rw [contains_push]; simp⟩
    · rintro ⟨y, hy, hk, hc⟩
      rw [contains_push, Bool.or_eq_true] at hc
      rcases hc with hc | hc
      · exact .inl ⟨y, hy, hk, hc⟩
      · have hb : y.born = e.born := by simpa using hc
        have := born_inj ((stamped_iff es clock).1 hst).2.1 hy hmem hb
        subst this
        exact .inr (St_inj (hk.symm.trans hs))

theorem mk79 (W : World) : (Instr.makeMap 79 none).run Try.prog W = .ok (.map (some W.heap.size)) (W.alloc (.map #[] 0)) := by simp [Instr.makeMap]
theorem mk100 (W : World) : (Instr.makeMap 100 none).run Try.prog W = .ok (.map (some W.heap.size)) (W.alloc (.map #[] 0)) := by simp [Instr.makeMap]

set_option maxHeartbeats 8000000 in
set_option maxRecDepth 100000 in
/-- Free -/
theorem free_any {w : World} {D : Nat → Prop} {e : Value} {x : X} (h : Rd w D e x) (hx : Smn 900 x) (hsz : x.size ≤ 100000) : Calls Try.prog 40 #[e] w (FnPost w x) := by
  obtain ⟨vn, va, rfl, hn, hr⟩ := h
  cases hx with
  | mk k t ns l ht hnl ha hs =>
  simp only [X.kind, X.text, X.names, X.parts] at *
  have hrow := free_row (hr.mono (E := fun c => w.heap.size ≤ c) (fun b hb q => by omega))
  have hnm := hn.mono (E := fun c => w.heap.size ≤ c) (fun b hb q => by omega)
  obtain ⟨an, cn, rfl, -⟩ := hn.shape
  obtain ⟨aa, ca, rfl, -⟩ := hr.shape
  obtain ⟨W3, hW3⟩ : ∃ q : World, q = ((w.alloc (.cells #[Kv k, St t, .slice an ns.length cn, .slice aa l.length ca] 28)).alloc (.map #[] 0)).alloc (.map #[] 0) := ⟨_, rfl⟩
  have hg3 : Grew w W3 := by rw [hW3]; exact (((Fr.refl _ _).alloc _).alloc _).alloc _
  have hs3 : W3.heap.size = w.heap.size + 3 := by rw [hW3]; simp
  have hm2 : W3.heap[w.heap.size + 1 + 1]? = some (.map #[] 0) := by
    rw [hW3]
    have := heap_alloc_new ((w.alloc (.cells #[Kv k, St t, .slice an ns.length cn, .slice aa l.length ca] 28)).alloc (.map #[] 0)) (.map #[] 0)
    simpa using this
  have hm1 : W3.heap[w.heap.size + 1]? = some (.map #[] 0) := by rw [hW3]; exact ((Fr.refl (fun _ => False) _).alloc _).get (heap_a2 _ _ _) (fun f => f)
  have hmp : ∀ b, W3.heap[b]? = some (.map #[] 0) → Mp W3 b (fun _ => none) := fun b hb => ⟨#[], 0, hb, stamped_empty 0, by simp, by simp⟩
  have hcall := hrow hs ha W3 (Grew.any hg3) k t _ ns hnm hnl (w.heap.size + 1 + 1) (w.heap.size + 1) (fun _ => 0) (fun _ => False) (by omega) (by omega) (by omega)
    ⟨_, hmp _ hm2, fun s => rfl⟩ ⟨_, hmp _ hm1, by simp, by simp⟩ (fun s => by simp only [X.size] at hsz; omega)
  have HG3 := hid hg3
  have HSZ := hid hsz
  clear hn hr hrow hnm hg3 hm2 hm1 hmp hs hsz
  rw [hW3] at hcall
  have mk1 := mk79
  have mk2 := mk100
  go_enter Try.func40, Try.ntmps40
  go_wp2_with (go_at_call 61; (with_reducible refine hcall.mono ?_); rintro e W4 ⟨rfl, hf4, -, hS4⟩; clear hcall; rw [← hW3] at hf4; obtain ⟨gS, ⟨es, clock, hes, hst, hk, hg⟩, hv, hmem⟩ := hS4; have hrg := run_range_map (P := Try.prog) W4 79 9 4 (w.heap.size + 1) es clock und79 hes; have HST := hid hst; have HK := hid hk; have HGG := hid hg; have HMEM := hid hmem; have HF4 := hid hf4; have HES := hid hes; clear hst hk hg hmem hf4 hv)
  obtain ⟨W6, hW6⟩ : ∃ q : World, q = W4.alloc (.mapIter (some (w.heap.size + 1)) clock #[] clock) := ⟨_, rfl⟩
  have hs4 : W3.heap.size ≤ W4.heap.size := HF4.out.size
  have hs6 : W6.heap.size = W4.heap.size + 1 := by rw [hW6]; simp
  have hg46 : Grew W4 W6 := by rw [hW6]; exact (Fr.refl _ _).alloc _
  have HK0 := hid (show KS W6 W4.heap.size (w.heap.size + 1) clock es (.slice none 0 0) [] #[] W6 from ⟨Fr.refl _ _, World.ownsRow_nil _ _ _ _, ⟨clock, by rw [hW6]; exact heap_alloc_new _ _, Nat.le_refl _⟩, hg46.get HES.out (fun f => f), List.nodup_nil, fun s => by simp⟩)
  have hkeys : ∀ y ∈ es.toList, ∃ s, y.key = St s := fun y hy => by obtain ⟨s, e, -⟩ := HK.out y hy; exact ⟨s, e⟩
  have HKEYS := hid hkeys
  have hold : ∀ y ∈ es.toList, y.born < clock := ((stamped_iff es clock).1 HST.out).1
  have HLEN := hid (show ∀ ks : List Str, ks.Nodup → (∀ s, s ∈ ks → ∃ e ∈ es.toList, e.key = St s) → ks.length ≤ 100000 from fun ks nd hm => by
    have h1 := nodup_len nd (m := (X.mk k t ns l).fv) (fun s hs => by
      obtain ⟨y, hy, e⟩ := hm s hs
      obtain ⟨s', e', hv'⟩ := HK.out y hy
      have : s' = s := St_inj (e'.symm.trans e)
      subst this
      have := (HMEM.out s').2 (by rw [hv']; simp)
      simpa using this)
    have h2 := fv_len (X.mk k t ns l)
    have := HSZ.out
    omega)
  have HG46 := hid hg46
  have HW6 := hid hW6
  have hfirst : (show World from W4.alloc (.mapIter (some (w.heap.size + 1)) clock #[] clock)) = W6 := hW6.symm
  clear hrg hkeys hg46 hW3 hW6 mk1 mk2
  go_loopw [4] (fun vl wr => ∃ (ks : List Str) (seen : Array Nat), (∃ a m c, vl = .slice a m c) ∧ KS W6 W4.heap.size (w.heap.size + 1) clock es vl ks seen wr) (fun _ wr => (leftOf es (wr.iterSeen W4.heap.size)).size)
  case atStart => exact ⟨[], #[], ⟨_, _, _, rfl⟩, HW6.out ▸ HK0.out⟩
  case round =>
    obtain ⟨ks, seen, ⟨aL, mL, cL, rfl⟩, hks⟩ := hrel
    have hlen := HLEN.out ks hks.nd (fun s hs => by obtain ⟨y, hy, e, -⟩ := (hks.mem s).1 hs; exact ⟨y, hy, e⟩)
    have hseen : wr.iterSeen W4.heap.size = seen := by
      obtain ⟨c0, hit, -⟩ := hks.it
      unfold World.iterSeen; rw [hit]
    obtain ⟨c0, hit, hc0⟩ := hks.it
    rcases run_next_at (P := Try.prog) wr 0 W4.heap.size (w.heap.size + 1) clock c0 seen es clock hit hks.mp hold hc0 with ⟨h0, hn⟩ | ⟨e, he, w1, hw1, hn⟩
    · have hnx : ∀ ty, (Instr.next (.pointer (some ⟨W4.heap.size, 0, none⟩)) false ty).run Try.prog wr = .ok (.tuple #[.bool false]) wr := fun ty => hn
      have hall := all_seen es seen h0
      have hgr : Grew w wr := ((HG3.out.trans HF4.out (fun c hc e => by rcases e with e | e <;> omega)).trans HG46.out (fun _ _ f => f)).trans hks.keep (fun c hc e => by omega)
      have hsort := sort_any hks.row (by omega)
      have HCL := hid (fun (W : World) (h : Rt W6.heap.size W (.slice aL mL cL) (srt ks)) => clone_any (nm_of_rt h) (by rw [srt_length]; omega))
      have HMM := hid (show ∀ s, s ∈ ks ↔ s ∈ (X.mk k t ns l).fv from fun s => by
        have hm := HMEM.out s
        simp only [false_or, and_true] at hm
        rw [hks.mem s]
        constructor
        · rintro ⟨y, hy, e, -⟩
          obtain ⟨s', e', hv'⟩ := HK.out y hy
          have : s' = s := St_inj (e'.symm.trans e)
          subst this
          exact hm.2 (by rw [hv']; simp)
        · intro hs
          have h1 := hm.1 hs
          cases hgs : gS s with
          | none => exact absurd hgs h1
          | some v =>
            obtain ⟨y, hy, e⟩ := HGG.out s v hgs
            exact ⟨y, hy, e, hall y hy⟩)
      have HND := hid hks.nd
      have HGR := hid hgr
      have hWr : W6.heap.size ≤ wr.heap.size := hks.keep.size
      have HROW := hid hks.row
      clear hks hit hn hall hgr hseen
      go_wp2_with (first | (go_at_call 62; (with_reducible refine hsort.mono ?_); rintro e w7 ⟨rfl, hrt7, hf7⟩; clear hsort; have HRT7 := hid hrt7; have HF7 := hid hf7; clear hrt7 hf7) | (go_at_call 53; (with_reducible refine (HCL.out _ HRT7.out).mono ?_); rintro e w8 ⟨v8, rfl, hrt8, -, hg8⟩))
      go_ret
      have h78 := HF7.out.size
      refine ⟨v8, ks, rfl, ownsRow_le' hrt8 (by omega), HND.out, HMM.out, (HGR.out.trans HF7.out (fun c hc e => by have := (HROW.out.lt c e).1; omega)).trans hg8 (fun _ _ f => f)⟩
    · have hnx : ∀ ty, (Instr.next (.pointer (some ⟨W4.heap.size, 0, none⟩)) false ty).run Try.prog wr = _ := fun ty => hn
      obtain ⟨s, v1, w6, hs, hen, hrun, ⟨a6, m6, c6, rfl⟩, hks6, hse6⟩ := hks.step HST.out HKEYS.out (by omega) (by omega) (by omega) (by omega) he hw1 25
      rw [hs] at hnx
      have hsh := left_shrinks es seen e he
      have HRUN := hid hrun
      have HKS6 := hid hks6
      have HSE6 := hid hse6
      have HSE := hid hseen
      have HSH := hid hsh
      clear hrun hks6 hse6 hseen hsh hks hit hn hs
      generalize setBlock w1 W4.heap.size (.mapIter (some (w.heap.size + 1)) clock (seen.push e.born) clock) = w2 at *
      go_wp2_with (at_builtin; refine wpList_app rfl rfl rfl rfl HRUN.out ?_; clear HRUN)
      go_roundw
      case rel => exact ⟨_, _, ⟨_, _, _, rfl⟩, HKS6.out⟩
      case measure => rw [HSE.out, HSE6.out]; exact HSH.out
end Go.Proofs.Ytddcfnjmppijjaa
