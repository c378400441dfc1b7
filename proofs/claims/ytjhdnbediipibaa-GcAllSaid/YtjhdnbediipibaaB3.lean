import Derived.Test.YtjhdnbediipibaaB2
/-! gc: Collect. -/
namespace Go.Proofs.Ytjhdnbediipibaa
open Go.RowKit

/-! plain: the rounds over what is to be copied -/
theorem lookI_append {k n : Int} : ∀ {l : List (Int × Int)} (m : List (Int × Int)), lookI k l = some n → lookI k (l ++ m) = some n
  | [], _, h => by simp [lookI] at h
  | p :: r, m, h => by
    unfold lookI at h
    simp only [List.cons_append, lookI]
    split at h
    · rename_i e; rw [if_pos e]; exact h
    · rename_i e; rw [if_neg e]; exact lookI_append m h
theorem copied_grows (A : AH) (d : Nat) (s : CS) (k : Int) : (∃ m, (s.copied A d k).2.ord = s.ord ++ m) ∧ lookI (A.short d k) (s.copied A d k).2.ord = some (s.copied A d k).1 := by
  unfold CS.copied
  cases hl : lookI (A.short d k) s.ord with
  | some n => exact ⟨⟨[], by simp⟩, hl⟩
  | none => exact ⟨⟨_, rfl⟩, lookI_split s.ord (A.short d k, s.used) [] (lookI_none.1 hl)⟩
theorem all_grows (A : AH) (d : Nat) (s : CS) (l : List Int) : (∃ m, (s.all A d l).2.ord = s.ord ++ m) ∧ ∀ k ∈ l, lookI (A.short d k) (s.all A d l).2.ord ≠ none := by
  refine snoc_ind (P := fun l => (∃ m, (s.all A d l).2.ord = s.ord ++ m) ∧ ∀ k ∈ l, lookI (A.short d k) (s.all A d l).2.ord ≠ none) ⟨⟨[], by simp [CS.all]⟩, by simp⟩ (fun l k ih => ?_) l
  obtain ⟨⟨m, hm⟩, hk⟩ := ih
  rw [CS.all_snoc]
  obtain ⟨⟨m2, hm2⟩, h2⟩ := copied_grows A d (s.all A d l).2 k
  refine ⟨⟨m ++ m2, by simp only [CS.stepAll]; rw [hm2, hm]; simp⟩, fun q hq => ?_⟩
  simp only [CS.stepAll]
  rcases List.mem_append.1 hq with hq | hq
  · obtain ⟨n, hn⟩ := Option.ne_none_iff_exists'.1 (hk q hq)
    rw [hm2, lookI_append m2 hn]; simp
  · rw [List.mem_singleton] at hq
    subst hq
    rw [h2]; simp

def CS.run (A : AH) (d : Nat) : Nat → Nat → CS → CS
  | 0, _, s => s
  | f + 1, i, s => if h : i < s.ord.length then CS.run A d f (i + 1) (s.all A d (A.ptrs s.ord[i].1)).2 else s
def AH.told (A : AH) (d : Nat) (roots : List Int) : List Int := (CS.all A d ⟨[], 0⟩ roots).1
def AH.final (A : AH) (d : Nat) (roots : List Int) : CS := CS.run A d (A.objs.length + 1) 0 (CS.all A d ⟨[], 0⟩ roots).2

/-- what holds while the rounds go -/
structure RunInv (A : AH) (d : Nat) (roots : List Int) (i : Nat) (s : CS) : Prop where
  inv : CS.Inv A s
  addr : CS.Addr A s
  le : i ≤ s.ord.length
  done : ∀ j (h : j < s.ord.length), j < i → ∀ q ∈ A.ptrs s.ord[j].1, lookI (A.short d q) s.ord ≠ none
  fin : CS.run A d (A.objs.length + 1 - i) i s = A.final d roots

theorem RunInv.start {A : AH} (h : A.WF) (d : Nat) {roots : List Int} (hr : ∀ k ∈ roots, A.has k) : RunInv A d roots 0 (CS.all A d ⟨[], 0⟩ roots).2 :=
  ⟨(CS.Inv.nil A).all h d roots hr, (CS.Addr.nil A).all h (CS.Inv.nil A) d roots hr, Nat.zero_le _, fun j _ h => by omega, rfl⟩
theorem len_sub : ∀ (l m : List Int), l.Nodup → (∀ k ∈ l, k ∈ m) → l.length ≤ m.length
  | [], m, _, _ => by simp
  | k :: r, m, hn, hs => by
    have hn' := List.nodup_cons.1 hn
    have h1 := len_sub r (m.erase k) hn'.2 (fun q hq => (List.mem_erase_of_ne (fun e => hn'.1 (by rw [← e]; exact hq))).2 (hs q (by simp [hq])))
    have hk := hs k (by simp)
    rw [List.length_erase_of_mem hk] at h1
    have := List.length_pos_of_mem hk
    simp only [List.length_cons]; omega
theorem RunInv.lenle {A : AH} (_h : A.WF) {d : Nat} {roots : List Int} {i : Nat} {s : CS} (r : RunInv A d roots i s) : s.ord.length ≤ A.objs.length := by
  have h1 := r.inv.nodup
  have h2 : ∀ k ∈ s.ord.map (·.1), k ∈ A.objs.map (·.1) := fun k hk => has_iff.1 (r.inv.has k hk)
  have := len_sub _ _ h1 h2
  simpa using this
theorem RunInv.step {A : AH} (h : A.WF) {d : Nat} {roots : List Int} {i : Nat} {s : CS} (r : RunInv A d roots i s) (hi : i < s.ord.length) : RunInv A d roots (i + 1) (s.all A d (A.ptrs s.ord[i].1)).2 := by
  have hp : ∀ k ∈ A.ptrs s.ord[i].1, A.has k := fun k hk => h.ptr_has hk
  obtain ⟨⟨m, hm⟩, hall⟩ := all_grows A d s (A.ptrs s.ord[i].1)
  have hll := r.lenle h
  refine ⟨r.inv.all h d _ hp, r.addr.all h r.inv d _ hp, by rw [hm]; simp; omega, fun j hj hji q hq => ?_, ?_⟩
  · by_cases e : j = i
    · subst e
      have : (s.all A d (A.ptrs s.ord[j].1)).2.ord[j] = s.ord[j] := by
        have h3 : (s.all A d (A.ptrs s.ord[j].1)).2.ord[j]? = s.ord[j]? := by rw [hm, List.getElem?_append_left hi]
        rw [List.getElem?_eq_getElem hj, List.getElem?_eq_getElem hi] at h3
        exact Option.some.inj h3
      rw [this] at hq
      exact hall q hq
    · have hjs : j < s.ord.length := by omega
      have : (s.all A d (A.ptrs s.ord[i].1)).2.ord[j] = s.ord[j] := by
        have h3 : (s.all A d (A.ptrs s.ord[i].1)).2.ord[j]? = s.ord[j]? := by rw [hm, List.getElem?_append_left hjs]
        rw [List.getElem?_eq_getElem hj, List.getElem?_eq_getElem hjs] at h3
        exact Option.some.inj h3
      rw [this] at hq
      obtain ⟨n, hn⟩ := Option.ne_none_iff_exists'.1 (r.done j hjs (by omega) q hq)
      rw [hm, lookI_append m hn]; simp
  · rw [← r.fin, show A.objs.length + 1 - i = (A.objs.length + 1 - (i + 1)) + 1 by omega]
    simp only [CS.run, hi, dite_true]
theorem RunInv.finish {A : AH} (h : A.WF) {d : Nat} {roots : List Int} {i : Nat} {s : CS} (r : RunInv A d roots i s) (hi : ¬ i < s.ord.length) : s = A.final d roots ∧ CS.Closed A d s := by
  have hll := r.lenle h
  have hle := r.le
  have hie : i = s.ord.length := by omega
  refine ⟨?_, fun p hp q hq => ?_⟩
  · rw [← r.fin, show A.objs.length + 1 - i = (A.objs.length - i) + 1 by omega]
    simp only [CS.run, hi, dite_false]
  · obtain ⟨j, hj, rfl⟩ := List.mem_iff_getElem.1 hp
    exact r.done j hj (by omega) q hq

theorem tag_has {A : AH} (h : A.WF) (k : Int) : A.tag k = 0 ↔ ¬ A.has k := by
  unfold AH.tag AH.has
  cases hf : A.find k with
  | none => simp
  | some o =>
    have := (h.shaped.find hf).1
    simp only [Option.map_some, Option.getD_some]
    constructor
    · intro e; omega
    · intro e; simp at e

set_option maxRecDepth 100000 in
/-- a root that is none -/
theorem collect_no {hb : Nat} {A : AH} {fp : List Nat} {d : Int} {w : World} (hA : A.WF) (h : PH w hb A fp) {rv : Value} {roots : List Int} (hr : Ow w rv roots) (hlen : roots.length ≤ 1000000) (hno : ∃ k ∈ roots, ¬ A.has k) :
    Calls Try.prog 25 #[.pointer (some ⟨hb, 0, none⟩), rv, .int .i64 d] w fun e w' => e = .returned (.tuple #[.pointer none, .slice none 0 0, .bool false]) ∧ w = w' := by
  obtain ⟨ra, rc, rfl, hrc, hrm⟩ := hr.shape
  have htg := fun k => tag_any h k
  have HT := hid htg
  have HR := hid hr
  have HN := hid hno
  have HA := hid hA
  clear htg hr hno hA h hrm
  go_enter Try.func25, Try.ntmps25
  go_wp2
  go_loop [17] (fun i => ∃ k : Nat, k ≤ roots.length ∧ i = .int .i64 k ∧ ∀ j (hj : j < roots.length), j < k → A.has roots[j]) (fun i => roots.length - (intOf i).toNat)
  case atStart => exact ⟨0, Nat.zero_le _, rfl, fun j _ hj => by omega⟩
  case round =>
    obtain ⟨k, hk, rfl, hall⟩ := hrel
    by_cases hlt : k < roots.length
    · obtain ⟨g, cap, he, _, _, _, hcell⟩ := HR.out.at (by omega)
      cases he
      have hc0 := (hcell k hlt).1
      by_cases hh : A.has roots[k]
      · have hne : (A.tag roots[k] == 0) = false := by
          simp only [beq_eq_false_iff_ne, ne_eq, tag_has HA.out]; exact fun q => q hh
        have HALL := hid (show ∀ j (hj : j < roots.length), j < k + 1 → A.has roots[j] from fun j hj hjk => by
          by_cases e : j = k
          · subst e; exact hh
          · exact hall j hj (by omega))
        generalize hz : roots[k] = z at hc0 hne
        clear hcell hall hh hz
        go_wp2_with (go_at_call 26; refine (HT.out _).mono ?_; rintro e w' ⟨rfl, rfl⟩)
        go_round
        case rel => exact ⟨k + 1, by omega, by go_num, HALL.out⟩
        case measure => simp [intOf]; omega
      · have he0 : (A.tag roots[k] == 0) = true := by
          rw [beq_iff_eq, tag_has HA.out]; exact hh
        generalize hz : roots[k] = z at hc0 he0
        clear hcell hall hh hz
        go_wp2_with (go_at_call 26; refine (HT.out _).mono ?_; rintro e w' ⟨rfl, rfl⟩)
        go_ret3
        exact ⟨rfl, rfl⟩
    · exfalso
      obtain ⟨q, hq, hn⟩ := HN.out
      obtain ⟨j, hj, rfl⟩ := List.mem_iff_getElem.1 hq
      exact hn (hall j hj (by omega))

/-- a row of just these, from B on -/
def FNew (B : Nat) (l : List Int) (v : Value) (w : World) : Prop := (∃ a c, v = .slice a l.length c) ∧ Ow w v l ∧ ∀ g, v.ownBlock = some g → B ≤ g
theorem FNew.stays (B : Nat) (l : List Int) : ∀ v w w', Grew w w' → FNew B l v w → FNew B l v w' := fun _ _ _ hs ⟨h1, h2, h3⟩ => ⟨h1, h2.kept hs (fun _ _ f => f), h3⟩

def CollectPost (w : World) (A : AH) (d : Nat) (roots : List Int) (e : Ending) (w' : World) : Prop :=
  ∃ ob fpo tv, e = .returned (.tuple #[.pointer (some ⟨ob, 0, none⟩), tv, .bool true]) ∧ PH w' ob (A.gcd d (A.final d roots)) fpo ∧ Ow w' tv (A.told d roots) ∧ Grew w w' ∧
    (∀ b ∈ fpo, w.heap.size ≤ b) ∧ (∀ g, tv.ownBlock = some g → w.heap.size ≤ g ∧ g ∉ fpo)

/-- the rounds -/
def RoundRel (w : World) (A : AH) (cb hb d : Nat) (roots : List Int) (tv : Value) (i : Nat) (wr : World) : Prop :=
  ∃ s fpr, RunInv A d roots i s ∧ CR wr cb hb d s fpr ∧ Grew w wr ∧ (∀ b ∈ fpr, w.heap.size ≤ b) ∧ Ow wr tv (A.told d roots) ∧ (∀ g, tv.ownBlock = some g → w.heap.size ≤ g ∧ g ∉ fpr)

set_option maxHeartbeats 2000000 in
set_option maxRecDepth 100000 in
theorem collect_ok {hb : Nat} {A : AH} {fp : List Nat} {d : Nat} {w : World} (hA : A.WF) (hd : d ≤ 1000) (h : PH w hb A fp) {rv : Value} {roots : List Int} (hr : Ow w rv roots) (hlen : roots.length ≤ 1000000) (hall : ∀ k ∈ roots, A.has k) :
    Calls Try.prog 25 #[.pointer (some ⟨hb, 0, none⟩), rv, .int .i64 d] w (CollectPost w A d roots) := by
  have hmm := @run_makeMap Try.prog
  obtain ⟨ra, rc, rfl, hrc, hrm⟩ := hr.shape
  have htg := fun k => tag_any h k
  have HT := hid htg
  have HR := hid hr
  have HALL := hid hall
  have HPH := hid h
  have HLT := hid h.lt
  -- the copier
  have hcr : CR ((w.alloc (.map #[] 0)).alloc (.cells #[.pointer (some ⟨hb, 0, none⟩), .int .i64 d, .map (some w.heap.size), .slice none 0 0, .int .i64 0] 74)) (w.heap.size + 1) hb d ⟨[], 0⟩ [w.heap.size + 1, w.heap.size] := by
    refine ⟨w.heap.size, #[], 0, .slice none 0 0, ?_, ?_, rfl, Ow.nil _, rfl⟩
    · have := heap_alloc_new (w.alloc (.map #[] 0)) (.cells #[.pointer (some ⟨hb, 0, none⟩), .int .i64 d, .map (some w.heap.size), .slice none 0 0, .int .i64 0] 74)
      simpa using this
    · rw [Below.heap_alloc _ _ _ (by simp)]
      exact heap_alloc_new w _
  have hg0 : Grew w ((w.alloc (.map #[] 0)).alloc (.cells #[.pointer (some ⟨hb, 0, none⟩), .int .i64 d, .map (some w.heap.size), .slice none 0 0, .int .i64 0] 74)) := ((Fr.refl _ w).alloc _).alloc _
  have hcall := all_any hA (CS.Inv.nil A) hd (hr.kept hg0 (fun _ _ f => f)) hlen hall (h.grew hg0) hcr (fun b hb' hm => by
    have := h.lt b hb'
    simp only [List.mem_cons, List.not_mem_nil, or_false] at hm
    omega) (fun g hg hm => by
    have := hr.lt hg
    simp only [List.mem_cons, List.not_mem_nil, or_false] at hm
    omega)
  have HC := hid hcall
  have HG0 := hid hg0
  have hws := hA.w0
  have hllen := hA.len
  have HA := hid hA
  clear htg hr hA h hrm hall hcr hcall hg0
  go_enter Try.func25, Try.ntmps25
  go_wp2
  go_loop [17] (fun i => ∃ k : Nat, k ≤ roots.length ∧ i = .int .i64 k) (fun i => roots.length - (intOf i).toNat)
  case atStart => exact ⟨0, Nat.zero_le _, rfl⟩
  case round =>
    obtain ⟨k, hk, rfl⟩ := hrel
    by_cases hlt : k < roots.length
    · obtain ⟨g, cap, he, _, _, _, hcell⟩ := HR.out.at (by omega)
      cases he
      have hc0 := (hcell k hlt).1
      have hh : A.has roots[k] := HALL.out _ (List.getElem_mem hlt)
      have hne : (A.tag roots[k] == 0) = false := by
        simp only [beq_eq_false_iff_ne, ne_eq, tag_has HA.out]; exact fun q => q hh
      generalize hz : roots[k] = z at hc0 hne
      clear hcell hh hz
      go_wp2_with (go_at_call 26; refine (HT.out _).mono ?_; rintro e w' ⟨rfl, rfl⟩)
      go_round
      case rel => exact ⟨k + 1, by omega, by go_num⟩
      case measure => simp [intOf]; omega
    · have hke : k = roots.length := by omega
      subst hke
      clear hlt hk
      go_wp2_with fail
      refine HC.out.mono ?_
      rintro e w1 ⟨tv, fp1, rfl, t1, t2, t3, t4, t5⟩
      have hstart : RoundRel w A (w.heap.size + 1) hb d roots tv 0 w1 := by
        have hz : w.heap.size + 2 = ((w.alloc (.map #[] 0)).alloc (.cells #[.pointer (some ⟨hb, 0, none⟩), .int .i64 d, .map (some w.heap.size), .slice none 0 0, .int .i64 0] 74)).heap.size := by simp
        refine ⟨_, fp1, RunInv.start HA.out d HALL.out, t2, HG0.out.trans t3 (fun i hi hm => by simp at hm; omega), fun b hb' => ?_, t1, fun g hg => ?_⟩
        · rcases t4 b hb' with q | q
          · simp at q; omega
          · omega
        · have := t5 g hg
          exact ⟨by omega, this.2⟩
      have HS := hid hstart
      clear t1 t2 t3 t4 t5 hstart
      generalize hcb : w.heap.size + 1 = cb at *
      have HCB := hid hcb
      clear hcb
      go_wp2
      go_loopw [13] (fun i wr => ∃ k : Nat, k ≤ 1000000 ∧ i = .int .i64 k ∧ RoundRel w A cb hb d roots tv k wr) (fun i _ => 1000001 - (intOf i).toNat)
      case atStart => exact ⟨0, Nat.zero_le _, rfl, HS.out⟩
      case round =>
        obtain ⟨i, hi, rfl, s, fpr, r1, r2, r3, r4, r5, r6⟩ := hrel
        have hll := r1.lenle HA.out
        have hPr := HPH.out.grew r3
        have HCR := hid r2
        obtain ⟨nb, es, clock, ov, c1, c2, c3, c4, c5⟩ := r2
        obtain ⟨oa, oc, rfl, hoc, hom⟩ := c4.shape
        rw [List.length_map] at c1 c4 hoc c5
        have d3 : wr.cell? ⟨cb, 3, none⟩ = some (.slice oa s.ord.length oc) := by rw [cell_of_get c1]; rfl
        have d0 : wr.cell? ⟨cb, 0, none⟩ = some (.pointer (some ⟨hb, 0, none⟩)) := by rw [cell_of_get c1]; rfl
        by_cases hlt : i < s.ord.length
        · obtain ⟨g0, cap, he, _, _, _, hcell⟩ := c4.at (by simp; omega)
          rw [List.length_map] at he
          cases he
          have dz := (hcell i (by simpa using hlt)).1
          rw [List.getElem_map] at dz
          have hstep := r1.step HA.out hlt
          have hhas : ∀ k ∈ A.ptrs s.ord[i].1, A.has k := fun k hk => HA.out.ptr_has hk
          have hpl := HA.out.shaped.ptrs_le s.ord[i].1
          generalize s.ord[i].1 = z at *
          have HPr := hid hPr
          have HST := hid hstep
          have HH := hid hhas
          have HR1 := hid r1
          have HR3 := hid r3
          have HR4 := hid r4
          have HR5 := hid r5
          have HR6 := hid r6
          clear hPr hstep hhas r1 r3 r4 r5 r6 c1 c2 c3 c4 c5 hcell hom
          go_wp2
          refine wp_region_facts 14 Grew [(44, Ex (.pointer (some ⟨cb, 0, none⟩))), (45, Ex (.pointer (some ⟨cb, 0, none⟩))), (46, Ex (.pointer (some ⟨cb, 0, none⟩))), (47, Ex (.pointer (some ⟨cb, 0, none⟩))), (48, Ex (.pointer (some ⟨cb, 0, none⟩))), (49, Ex (.pointer (some ⟨hb, 0, none⟩))), (50, Ex (.pointer (some ⟨cb, 0, none⟩))), (51, Ex (.pointer (some ⟨cb, 0, none⟩))), (52, Ex (.pointer (some ⟨cb, 3, none⟩))), (53, Ex (.slice (some ⟨g0, 0, none⟩) s.ord.length oc)), (54, Ex (Kv i)), (55, Ex (.pointer (some ⟨g0, i, none⟩))), (56, Ex (Kv z)), (57, FNew wr.heap.size (A.ptrs z))] (by kernel_rfl) (by kernel_rfl) (by rfl) (by rfl)
            (fun a => Fr.refl _ a) (fun a b c h k => h.trans k (fun _ _ f => f)) (Fr.refl _ _).drew
            (Stays.all ⟨Ex.stays _, Ex.stays _, Ex.stays _, Ex.stays _, Ex.stays _, Ex.stays _, Ex.stays _, Ex.stays _, Ex.stays _, Ex.stays _, Ex.stays _, Ex.stays _, Ex.stays _, FNew.stays _ _, trivial⟩) ?_ ?_
          · go_light
            refine OpGoals.cons ?_ (OpGoals.cons ?_ (OpGoals.cons ?_ (OpGoals.cons ?_ (OpGoals.cons ?_ (OpGoals.cons ?_ (OpGoals.cons ?_ (OpGoals.cons ?_ (OpGoals.cons ?_ (OpGoals.cons ?_ (OpGoals.cons ?_ (OpGoals.cons ?_ (OpGoals.cons ?_ (OpGoals.cons ?_ OpGoals.none)))))))))))))
            all_goals (intro a' w' hS hR; simp [Rd, Op.operands, Call.operands, Fk, Ex] at hR)
            all_goals (show Yields _ _ _ _ _)
            all_goals (have hc0 := hS.cell d0 (fun f => f))
            all_goals (have hc3 := hS.cell d3 (fun f => f))
            all_goals (have hcz := hS.cell dz (fun f => f))
            all_goals try (simp [Yields, execOp, Act.eval, hR, hc0, hc3, hcz, go_sem, Fk, Ex, Fr.refl]; done)
            · have h1 : (i : Int) < s.ord.length := by omega
              simp [Yields, execOp, Act.eval, hR, hlt, go_sem, Fk, Ex, Fr.refl]
            · simp [Yields, Act.eval, hR, go_sem, Fk, Ex]
              refine (ptrs_any (HPr.out.grew hS) z (by omega)).mono ?_
              rintro e w2 ⟨v, rfl, h1, h2, h3⟩
              obtain ⟨x, c, rfl, _⟩ := h1.shape
              have := hS.size
              exact ⟨_, rfl, ⟨⟨x, c, rfl⟩, h1, fun g hg => by have := h3 g hg; omega⟩, h2⟩
          · intro w6 hS
            rintro _ rfl _ rfl _ rfl _ rfl _ rfl _ rfl _ rfl _ rfl _ rfl _ rfl _ rfl _ rfl _ rfl v57 ⟨⟨xa, xc, rfl⟩, hon, hob⟩
            refine Then.nil ?_
            have hcall := all_any HA.out HR1.out.inv hd hon (by omega) HH.out (HPr.out.grew hS) (HCR.out.kept hS (fun _ _ f => f)) (fun b hb' hm => by
              have q1 := HLT.out b hb'
              have q2 := HR4.out b hm
              omega) (fun g hg hm => by
              have q1 := hob g hg
              have q2 := HCR.out.lt g hm
              omega)
            have HGS := hid hS
            clear hon hob hS
            go_wp2_with fail
            refine hcall.mono ?_
            rintro e w7 ⟨u, fp7, rfl, u1, u2, u3, u4, u5⟩
            have hnew : RoundRel w A cb hb d roots tv (i + 1) w7 := by
              have z1 := HR3.out.size
              have z2 := HGS.out.size
              refine ⟨_, fp7, HST.out, u2, ?_, fun b hb' => ?_, (HR5.out.kept HGS.out (fun _ _ f => f)).kept u3 (fun g hg hm => (HR6.out g hg).2 hm), fun g hg => ⟨(HR6.out g hg).1, fun hm => ?_⟩⟩
              · have f1 := HR3.out.trans HGS.out (fun _ _ f => f)
                exact f1.trans u3 (fun j hj hm => by have := HR4.out j hm; omega)
              · rcases u4 b hb' with q | q
                · exact HR4.out b q
                · omega
              · rcases u4 g hm with q | q
                · exact (HR6.out g hg).2 q
                · have := HR5.out.lt hg; omega
            have HN := hid hnew
            clear hnew u1 u2 u3 u4 u5
            go_wp2
            go_roundw
            case rel => exact ⟨i + 1, by omega, by go_num, HN.out⟩
            case measure => simp [intOf]; omega
        · obtain ⟨hsf, hcl⟩ := r1.finish HA.out hlt
          have hwd := words_any hPr
          have HPr := hid hPr
          have HCL := hid hcl
          have HR1 := hid r1
          have HR3 := hid r3
          have HR4 := hid r4
          have HR5 := hid r5
          have HR6 := hid r6
          have HSF := hid hsf
          have hlt' : (s.ord.length : Int) ≤ i := by omega
          clear hPr hcl r1 r3 r4 r5 r6 hsf c1 c2 c3 c4 c5 hlt hom d0
          go_wp2_with fail
          refine hwd.mono ?_
          rintro e wx ⟨rfl, rfl⟩
          go_wp2_with fail
          refine (new_any _ _).mono ?_
          rintro e w2 ⟨ob, fpo, rfl, n1, n2, n3⟩
          have hlay := lay_any HA.out HR1.out.inv HR1.out.addr HCL.out hd (HPr.out.grew n2) (HCR.out.kept n2 (fun _ _ f => f)) n1 (fun b hb' hm => by
              have q1 := n3 b hb'
              have q2 := HLT.out b hm
              have q3 := HR3.out.size
              omega) (fun b hb' hm => by
              have q1 := n3 b hb'
              have q2 := HCR.out.lt b hm
              omega)
          have HN2 := hid n2
          have HN3 := hid n3
          clear n1 n2 n3
          go_wp2_with fail
          refine hlay.mono ?_
          rintro e w3 ⟨rfl, fp3, p1, p2, p3⟩
          have hpost : CollectPost w A d roots (.returned (.tuple #[.pointer (some ⟨ob, 0, none⟩), tv, .bool true])) w3 := by
            have z1 := HR3.out.size
            have z2 := HN2.out.size
            have f1 := HR3.out.trans HN2.out (fun _ _ f => f)
            refine ⟨ob, fp3, tv, rfl, by rw [← HSF.out]; exact p1, ?_, f1.trans p2 (fun j hj hm => by have := HN3.out j hm; omega), fun b hb' => ?_, fun g hg => ⟨(HR6.out g hg).1, fun hm => ?_⟩⟩
            · exact (HR5.out.kept HN2.out (fun _ _ f => f)).kept p2 (fun g hg hm => by
                have q1 := HN3.out g hm
                have q2 := HR5.out.lt hg
                omega)
            · rcases p3 b hb' with q | q
              · have := HN3.out b q; omega
              · omega
            · have q2 := HR5.out.lt hg
              rcases p3 g hm with q | q
              · have := HN3.out g q; omega
              · omega
          have HP := hid hpost
          clear hpost p1 p2 p3
          go_wp2
          go_ret3
          exact HP.out
end Go.Proofs.Ytjhdnbediipibaa
