import Derived.Test.YtjhdnbediipibaaE3
/-! The document's heap: Set, Over; the program's Over. -/
namespace Go.Proofs.Ytjhdnbediipibaa
open Go.RowKit

theorem focusP (k : Int) {x : PO} : ∀ xs : List PO, lookP k xs = some x → ∃ l r, xs = l ++ x :: r ∧
    ∀ x' : PO, x'.at' = k → x'.ob = x.ob → updO k x'.o (xs.map PO.pair) = (l ++ x' :: r).map PO.pair ∧ (l ++ x' :: r).map PO.ptr = xs.map PO.ptr
  | [], h => by simp [lookP] at h
  | y :: xs, h => by
    rw [lookP_cons] at h
    by_cases hk : k = y.at'
    · rw [if_pos hk] at h
      cases h
      refine ⟨[], xs, rfl, ?_⟩
      intro x' h1 h2
      simp [updO, PO.pair, PO.ptr, hk, h1, h2]
    · rw [if_neg hk] at h
      obtain ⟨l, r, rfl, h4⟩ := focusP k xs h
      refine ⟨y :: l, r, rfl, ?_⟩
      intro x' g1 g2
      obtain ⟨g3, g4⟩ := h4 x' g1 g2
      have hk' : ¬ k = (PO.pair y).1 := hk
      constructor
      · simp only [List.cons_append, List.map_cons, updO, hk', if_false]; rw [g3]
      · simp only [List.cons_append, List.map_cons]; rw [g4]

theorem RX.focus {w : World} {xb : Nat} {A : AH} {fp : List Nat} {lv : Value} {xs : List PO} (h : RX w xb A fp lv xs) {k : Int} {x : PO} (hk : lookP k xs = some x) :
    x.holdsR w ∧ x.blocks.Nodup ∧ (∀ b ∈ x.blocks, b ∈ fp) ∧
      ∀ (W : World) (x' : PO), x'.at' = k → x'.ob = x.ob → x'.holdsR W → Fr (· ∈ x.blocks) w W → (∀ b ∈ x'.blocks, b ∈ x.blocks ∨ w.heap.size ≤ b) → x'.blocks.Nodup →
        ∃ fp', RH W xb (A.upd k x'.o) fp' ∧ (∀ b ∈ fp', b ∈ fp ∨ w.heap.size ≤ b) ∧ Fr (· ∈ fp) w W := by
  have hlt := (show RH w xb A fp from ⟨lv, xs, h⟩).lt
  obtain ⟨h1, h2, h3, h4, h5, h6⟩ := h
  obtain ⟨l, r, rfl, g4⟩ := focusP k xs hk
  have hx : x.holdsR w := h4 x (by simp)
  have hn : x.blocks.Nodup := by
    rw [h5] at h6
    simp only [List.nodup_cons, List.flatMap_append, List.flatMap_cons, List.nodup_append] at h6
    exact h6.2.2.1.2.1.1
  have hfp : ∀ b ∈ x.blocks, b ∈ fp := fun b hb' => by rw [h5]; simp [hb']
  refine ⟨hx, hn, hfp, ?_⟩
  intro W x' a1 a2 a3 a4 a5 a6
  obtain ⟨g5, g6⟩ := g4 x' a1 a2
  subst h5
  simp only [List.nodup_cons, List.mem_append, not_or, List.flatMap_append, List.flatMap_cons, List.nodup_append, Option.mem_toList] at h6
  obtain ⟨⟨n1, n2, n3, n4⟩, n5, ⟨n6, ⟨n7, n8, n9⟩, n10⟩, n11⟩ := h6
  have hxb : xb < w.heap.size := hlt xb (by simp)
  have hlt2 : ∀ y ∈ l ++ x :: r, ∀ b ∈ y.blocks, b < w.heap.size := fun y hy b hb' => (h4 y hy).lt b hb'
  have hlv : ∀ g, lv.ownBlock = some g → g < w.heap.size := fun g hg => hlt g (by simp [hg])
  have hin : ∀ b ∈ x'.blocks, b < w.heap.size → b ∈ x.blocks := fun b hb' hl => (a5 b hb').resolve_right (by omega)
  have hlx : ∀ g, lv.ownBlock = some g → g ∉ x.blocks := fun g hg hm => n11 g hg g (.inr (.inl hm)) rfl
  refine ⟨xb :: (lv.ownBlock.toList ++ (l ++ x' :: r).flatMap PO.blocks), ⟨lv, l ++ x' :: r, a4.get h1 n3, ?_, ?_, ?_, rfl, ?_⟩, ?_, a4.mono (fun i _ hi => hfp i hi)⟩
  · rw [g6]; exact h2.kept a4 hlx
  · show updO k x'.o A.objs = _
    rw [h3, g5]
  · intro y hy
    simp only [List.mem_append, List.mem_cons] at hy
    rcases hy with hy | rfl | hy
    · exact (h4 y (by simp [hy])).kept a4 (fun b hb' hbx => n10 b (List.mem_flatMap.2 ⟨y, hy, hb'⟩) b (.inl hbx) rfl)
    · exact a3
    · exact (h4 y (by simp [hy])).kept a4 (fun b hb' hbx => n9 b hbx b (List.mem_flatMap.2 ⟨y, hy, hb'⟩) rfl)
  · simp only [List.nodup_cons, List.mem_append, not_or, List.flatMap_append, List.flatMap_cons, List.nodup_append, Option.mem_toList]
    refine ⟨⟨n1, n2, fun e => n3 (hin _ e hxb), n4⟩, n5, ⟨n6, ⟨a6, n8, fun a ha b hb' e => ?_⟩, fun a ha b hb' e => ?_⟩, fun a ha b hb' e => ?_⟩
    · subst e
      obtain ⟨y, hy, hby⟩ := List.mem_flatMap.1 hb'
      exact n9 a (hin a ha (hlt2 y (by simp [hy]) a hby)) a hb' rfl
    · subst e
      obtain ⟨y, hy, hby⟩ := List.mem_flatMap.1 ha
      rcases hb' with hb' | hb'
      · exact n10 a ha a (.inl (hin a hb' (hlt2 y (by simp [hy]) a hby))) rfl
      · exact n10 a ha a (.inr hb') rfl
    · subst e
      rcases hb' with hb' | hb' | hb'
      · exact n11 a ha a (.inl hb') rfl
      · exact n11 a ha a (.inr (.inl (hin a hb' (hlv a ha)))) rfl
      · exact n11 a ha a (.inr (.inr hb')) rfl
  · intro b hbm
    simp only [List.mem_cons, List.mem_append, List.flatMap_append, List.flatMap_cons, Option.mem_toList] at hbm ⊢
    rcases hbm with hbm | hbm | hbm | hbm | hbm
    · exact .inl (.inl hbm)
    · exact .inl (.inr (.inl hbm))
    · exact .inl (.inr (.inr (.inl hbm)))
    · rcases a5 b hbm with q | q
      · exact .inl (.inr (.inr (.inr (.inl q))))
      · exact .inr q
    · exact .inl (.inr (.inr (.inr (.inr hbm))))

def RSetPost (w : World) (xb : Nat) (A : AH) (fp : List Nat) (k i to : Int) (e : Ending) (w' : World) : Prop :=
  if A.SetOk k i to then e = .returned (.bool true) ∧ ∃ fp', RH w' xb (A.set k i to) fp' ∧ Fr (· ∈ fp) w w' ∧ ∀ b ∈ fp', b ∈ fp ∨ w.heap.size ≤ b
  else e = .returned (.bool false) ∧ w = w'
theorem RSetPost.no {w : World} {xb : Nat} {A : AH} {fp : List Nat} {k i to : Int} (h : ¬ A.SetOk k i to) : RSetPost w xb A fp k i to (.returned (.bool false)) w := by
  unfold RSetPost; rw [if_neg h]; exact ⟨rfl, rfl⟩

theorem frozen_rb {w : World} {ob : Nat} {k t : Int} {pv nv : Value} (h : w.heap[ob]? = some (.cells #[Kv k, Kv t, pv, nv] 89 (0, 0))) (i : Nat) : w.frozen? ⟨ob, i, none⟩ = false := frozen_of_get h i

set_option maxHeartbeats 1000000 in
set_option maxRecDepth 100000 in
theorem rset_any {w : World} {xb : Nat} {A : AH} {fp : List Nat} (h : RH w xb A fp) (hlen : A.objs.length ≤ 1000000) (k i to : Int) (hS : A.Shaped) :
    Calls Try.prog 57 #[.pointer (some ⟨xb, 0, none⟩), .int .i64 k, .int .i64 i, .int .i64 to] w (RSetPost w xb A fp k i to) := by
  obtain ⟨lv, xs, h⟩ := h
  have hg := rfind h hlen k
  have hf := h.find k
  have hg2 := rfind h hlen to
  have hf2 := h.find to
  cases hl : lookP k xs with
  | none =>
    rw [hl] at hg hf
    have H := hid (RSetPost.no (w := w) (xb := xb) (fp := fp) (show ¬ A.SetOk k i to from fun q => q.1 hf))
    clear hf h hS hl hg2 hf2
    simp only [ptrOf] at hg
    go_enter Try.func57, Try.ntmps57
    go_wp2_with (go_at_call 62; refine hg.mono ?_; rintro e w' ⟨rfl, rfl⟩)
    go_ret
    exact H.out
  | some x =>
    rw [hl] at hg hf
    simp only [Option.map_some] at hf
    obtain ⟨hx, hxn, hxf, hclose⟩ := h.focus hl
    obtain ⟨_, _, cp, _⟩ := cells_rb hx.1
    obtain ⟨pa, pc, hpv, hpl, hpm⟩ := hx.2.1.shape
    simp only [ptrOf, PO.ptr] at hg
    cases hl2 : lookP to xs with
    | none =>
      rw [hl2] at hg2 hf2
      have H := hid (RSetPost.no (w := w) (xb := xb) (fp := fp) (show ¬ A.SetOk k i to from fun q => q.2.1 hf2))
      simp only [ptrOf] at hg2
      clear hf hf2 h hS hx hxn hxf hclose cp hpv hpl hpm hl hl2
      go_enter Try.func57, Try.ntmps57
      go_wp2_with (first | (go_at_call_of 62 (Value.int .i64 k); refine hg.mono ?_; rintro e w' ⟨rfl, rfl⟩) | (go_at_call_of 62 (Value.int .i64 to); refine hg2.mono ?_; rintro e w' ⟨rfl, rfl⟩))
      go_ret
      exact H.out
    | some x2 =>
      rw [hl2] at hg2 hf2
      simp only [Option.map_some] at hf2
      simp only [ptrOf, PO.ptr] at hg2
      have hlen := (hS.find hf).2.2.1
      by_cases hi0 : i < 0
      · have H := hid (RSetPost.no (w := w) (xb := xb) (fp := fp) (show ¬ A.SetOk k i to from fun q => by have := q.2.2.1; omega))
        clear hf hf2 h hS hx hxn hxf hclose hpl hpm hlen hl hl2
        rw [hpv] at cp
        clear hpv
        go_enter Try.func57, Try.ntmps57
        go_wp2_with (first | (go_at_call_of 62 (Value.int .i64 k); refine hg.mono ?_; rintro e w' ⟨rfl, rfl⟩) | (go_at_call_of 62 (Value.int .i64 to); refine hg2.mono ?_; rintro e w' ⟨rfl, rfl⟩))
        go_ret
        exact H.out
      · by_cases hil : i < x.o.ptrs.length
        · obtain ⟨m, rfl⟩ := Int.eq_ofNat_of_zero_le (show 0 ≤ i by omega)
          have hm : m < x.o.ptrs.length := by omega
          obtain ⟨g, cap, hpv2, _, _, _, hcell⟩ := hx.2.1.at (by omega)
          obtain ⟨hc, hfz⟩ := hcell m hm
          have hown := hx.2.1
          rw [hpv2] at hown cp
          have hpost : RSetPost w xb A fp k m to (.returned (.bool true)) (w.setCell ⟨g, m, none⟩ (Kv to)) := by
            have hok : A.SetOk k m to := ⟨by rw [AH.has, hf]; simp, by rw [AH.has, hf2]; simp, by omega, by
              simp only [AH.ptrs, hf, Option.map_some, Option.getD_some]; exact hil⟩
            unfold RSetPost; rw [if_pos hok]
            have hbl : x.blocks = x.ob :: (g :: x.nv.ownBlock.toList) := by simp [PO.blocks, hpv2, Value.ownBlock]
            have hfr : Fr (· ∈ x.blocks) w (w.setCell ⟨g, m, none⟩ (Kv to)) := (Fr.refl _ w).setCell (fun _ => by rw [hbl]; simp) _
            rw [hbl] at hxn
            have hne1 : x.ob ≠ g := by simp at hxn; exact fun e => hxn.1.1 e
            have hne2 : ∀ q, x.nv.ownBlock = some q → q ≠ g := by intro q hq e; subst e; simp [hq] at hxn
            have hfg : Fr (fun q => q = g) w (w.setCell ⟨g, m, none⟩ (Kv to)) := (Fr.refl (fun q => q = g) w).setCell (p := ⟨g, m, none⟩) (fun _ => rfl) _
            have hxa := (lookP_mem hl).2
            obtain ⟨fp', q1, q2, q3⟩ := hclose (w.setCell ⟨g, m, none⟩ (Kv to)) ⟨k, { x.o with ptrs := x.o.ptrs.set m to }, x.ob, .slice (some ⟨g, 0, none⟩) (x.o.ptrs.set m to).length cap, x.nv⟩ rfl rfl
              ⟨by rw [hfg.block _ (lt_of_get hx.1) hne1, List.length_set, hx.1, hpv2, hxa], hown.set m to, hx.2.2.kept hfg hne2⟩ hfr (by rw [hbl]; simp [PO.blocks, Value.ownBlock]; grind) (by simpa [PO.blocks, Value.ownBlock] using hxn)
            refine ⟨rfl, fp', ?_, q3, q2⟩
            have eo : A.obj k = x.o := by simp [AH.obj, hf]
            unfold AH.set
            rw [eo]
            exact q1
          have H := hid hpost
          have hil2 : ¬ ((x.o.ptrs.length : Int) ≤ m) := by omega
          clear hf hf2 h hS hx hxn hxf hclose hpl hpm hpv hpv2 hcell hpost hown hi0 hil hl hl2
          go_enter Try.func57, Try.ntmps57
          go_wp2_with (first | (go_at_call_of 62 (Value.int .i64 k); refine hg.mono ?_; rintro e w' ⟨rfl, rfl⟩) | (go_at_call_of 62 (Value.int .i64 to); refine hg2.mono ?_; rintro e w' ⟨rfl, rfl⟩))
          go_ret
          exact H.out
        · have H := hid (RSetPost.no (w := w) (xb := xb) (fp := fp) (show ¬ A.SetOk k i to from fun q => by have := q.2.2.2; simp only [AH.ptrs, hf, Option.map_some, Option.getD_some] at this; exact hil this))
          have hil' : (x.o.ptrs.length : Int) ≤ i := by omega
          clear hf hf2 h hS hx hxn hxf hclose hpl hpm hil hl hl2
          rw [hpv] at cp
          clear hpv
          go_enter Try.func57, Try.ntmps57
          go_wp2_with (first | (go_at_call_of 62 (Value.int .i64 k); refine hg.mono ?_; rintro e w' ⟨rfl, rfl⟩) | (go_at_call_of 62 (Value.int .i64 to); refine hg2.mono ?_; rintro e w' ⟨rfl, rfl⟩))
          go_ret
          exact H.out

/-! Over -/
def AH.OverOk (A : AH) (k to : Int) : Prop := A.has k ∧ A.has to ∧ k ≠ to
instance (A : AH) (k to : Int) : Decidable (A.OverOk k to) := by unfold AH.OverOk; infer_instance
def AH.over (A : AH) (k to : Int) : AH := A.upd k ⟨5, [to], []⟩
def OverPost (R : World → AH → List Nat → Prop) (w : World) (A : AH) (fp : List Nat) (k to : Int) (e : Ending) (w' : World) : Prop :=
  if A.OverOk k to then e = .returned (.bool true) ∧ ∃ fp', R w' (A.over k to) fp' ∧ Fr (· ∈ fp) w w' ∧ ∀ b ∈ fp', b ∈ fp ∨ w.heap.size ≤ b
  else e = .returned (.bool false) ∧ w = w'
theorem OverPost.no {R : World → AH → List Nat → Prop} {w : World} {A : AH} {fp : List Nat} {k to : Int} (h : ¬ A.OverOk k to) : OverPost R w A fp k to (.returned (.bool false)) w := by
  unfold OverPost; rw [if_neg h]; exact ⟨rfl, rfl⟩

set_option maxHeartbeats 1000000 in
set_option maxRecDepth 100000 in
theorem rover_any {w : World} {xb : Nat} {A : AH} {fp : List Nat} (h : RH w xb A fp) (hlen : A.objs.length ≤ 1000000) (k to : Int) :
    Calls Try.prog 45 #[.pointer (some ⟨xb, 0, none⟩), .int .i64 k, .int .i64 to] w (OverPost (fun w => RH w xb) w A fp k to) := by
  obtain ⟨lv, xs, h⟩ := h
  have hg := rfind h hlen k
  have hf := h.find k
  have hg2 := rfind h hlen to
  have hf2 := h.find to
  cases hl : lookP k xs with
  | none =>
    rw [hl] at hg hf
    have H := hid (OverPost.no (R := fun w => RH w xb) (w := w) (fp := fp) (show ¬ A.OverOk k to from fun q => q.1 hf))
    clear hf h hl hg2 hf2
    simp only [ptrOf] at hg
    go_enter Try.func45, Try.ntmps45
    go_wp2_with (go_at_call 62; refine hg.mono ?_; rintro e w' ⟨rfl, rfl⟩)
    go_ret
    exact H.out
  | some x =>
    rw [hl] at hg hf
    simp only [Option.map_some] at hf
    obtain ⟨hx, hxn, hxf, hclose⟩ := h.focus hl
    simp only [ptrOf, PO.ptr] at hg
    cases hl2 : lookP to xs with
    | none =>
      rw [hl2] at hg2 hf2
      have H := hid (OverPost.no (R := fun w => RH w xb) (w := w) (fp := fp) (show ¬ A.OverOk k to from fun q => q.2.1 hf2))
      simp only [ptrOf] at hg2
      clear hf hf2 h hx hxn hxf hclose hl hl2
      go_enter Try.func45, Try.ntmps45
      go_wp2_with (first | (go_at_call_of 62 (Value.int .i64 k); refine hg.mono ?_; rintro e w' ⟨rfl, rfl⟩) | (go_at_call_of 62 (Value.int .i64 to); refine hg2.mono ?_; rintro e w' ⟨rfl, rfl⟩))
      go_ret
      exact H.out
    | some x2 =>
      rw [hl2] at hg2 hf2
      simp only [Option.map_some] at hf2
      simp only [ptrOf, PO.ptr] at hg2
      by_cases hkt : k = to
      · have H := hid (OverPost.no (R := fun w => RH w xb) (w := w) (fp := fp) (show ¬ A.OverOk k to from fun q => q.2.2 hkt))
        subst hkt
        clear hf hf2 h hx hxn hxf hclose hl hl2
        go_enter Try.func45, Try.ntmps45
        go_wp2_with (first | (go_at_call_of 62 (Value.int .i64 k); refine hg.mono ?_; rintro e w' ⟨rfl, rfl⟩) | (go_at_call_of 62 (Value.int .i64 k); refine hg2.mono ?_; rintro e w' ⟨rfl, rfl⟩))
        go_ret
        exact H.out
      · have hbk : (k == to) = false := by simpa using hkt
        have hok : A.OverOk k to := ⟨by rw [AH.has, hf]; simp, by rw [AH.has, hf2]; simp, hkt⟩
        have hob := hx.1
        have hl0 := lt_of_get hob
        have g0 := Grew.alloc w (.cells #[.int .i64 to] 3)
        have hob1 := g0.get hob (fun f => f)
        have c1 : w.cell? ⟨x.ob, 1, none⟩ = some (Kv x.o.tag) := by rw [cell_of_get hob]; rfl
        have c2 : w.cell? ⟨x.ob, 2, none⟩ = some x.pv := by rw [cell_of_get hob]; rfl
        have c3 : w.cell? ⟨x.ob, 3, none⟩ = some x.nv := by rw [cell_of_get hob]; rfl
        have z1 := frozen_of_get hob 1
        have z2 := frozen_of_get hob 2
        have z3 := frozen_of_get hob 3
        have hW := setCell_get (setCell_get (setCell_get hob1 1 (Kv 5)) 2 (.slice (some ⟨w.heap.size, 0, none⟩) 1 1)) 3 (.slice none 0 0)
        have hset : Fr (fun q => q = x.ob) (w.alloc (.cells #[.int .i64 to] 3)) ((((w.alloc (.cells #[.int .i64 to] 3)).setCell ⟨x.ob, 1, none⟩ (Kv 5)).setCell ⟨x.ob, 2, none⟩ (.slice (some ⟨w.heap.size, 0, none⟩) 1 1)).setCell ⟨x.ob, 3, none⟩ (.slice none 0 0)) :=
          (((Fr.refl (fun q => q = x.ob) _).setCell (p := ⟨x.ob, 1, none⟩) (fun _ => rfl) _).setCell (p := ⟨x.ob, 2, none⟩) (fun _ => rfl) _).setCell (p := ⟨x.ob, 3, none⟩) (fun _ => rfl) _
        have hxa := (lookP_mem hl).2
        obtain ⟨fp', q1, q2, q3⟩ := hclose _ ⟨k, ⟨5, [to], []⟩, x.ob, .slice (some ⟨w.heap.size, 0, none⟩) 1 1, .slice none 0 0⟩ rfl rfl
          ⟨by rw [hW, hxa]; rfl, (Ow.one w to).kept hset (fun g hg e => by simp [Value.ownBlock] at hg; omega), Ow.nil _⟩
          (g0.any.trans hset (fun i _ e => by subst e; simp [PO.blocks])) (by simp [PO.blocks, Value.ownBlock]) (by simp [PO.blocks, Value.ownBlock]; omega)
        rw [World.setCell_alloc_past _ _ _ _ hl0, World.setCell_alloc_past _ _ _ _ (by simpa [World.setCell] using hl0), World.setCell_alloc_past _ _ _ _ (by simpa [World.setCell] using hl0)] at q1 q3
        have H := hid (show OverPost (fun w => RH w xb) w A fp k to (.returned (.bool true)) _ from by
          unfold OverPost; rw [if_pos hok]; exact ⟨rfl, fp', q1, q3, q2⟩)
        clear hf hf2 h hx hxn hxf hclose hl hl2 hob hob1 hW hset q1 q2 q3 g0 hok hkt
        go_enter Try.func45, Try.ntmps45
        go_wp2_with (first | (go_at_call_of 62 (Value.int .i64 k); refine hg.mono ?_; rintro e w' ⟨rfl, rfl⟩) | (go_at_call_of 62 (Value.int .i64 to); refine hg2.mono ?_; rintro e w' ⟨rfl, rfl⟩))
        go_ret
        exact H.out

set_option maxHeartbeats 1000000 in
set_option maxRecDepth 100000 in
theorem over_any {w : World} {hb : Nat} {A : AH} {fp : List Nat} (h : PH w hb A fp) (k to : Int) :
    Calls Try.prog 39 #[.pointer (some ⟨hb, 0, none⟩), .int .i64 k, .int .i64 to] w (OverPost (fun w => PH w hb) w A fp k to) := by
  cases hf : A.find k with
  | none =>
    have hg := get_none h k hf
    have H := hid (OverPost.no (R := fun w => PH w hb) (w := w) (fp := fp) (show ¬ A.OverOk k to from fun q => q.1 hf))
    clear hf h
    go_enter Try.func39, Try.ntmps39
    go_wp2_with (go_at_call 48; refine hg.mono ?_; rintro e w' ⟨rfl, rfl⟩)
    go_ret
    exact H.out
  | some o =>
    obtain ⟨x, hxo, hx, hxn, hxf, hg, hclose⟩ := h.focus hf
    cases hf2 : A.find to with
    | none =>
      have hg2 := get_none h to hf2
      have H := hid (OverPost.no (R := fun w => PH w hb) (w := w) (fp := fp) (show ¬ A.OverOk k to from fun q => q.2.1 hf2))
      clear hf hf2 h hx hxn hxf hclose hxo
      go_enter Try.func39, Try.ntmps39
      go_wp2_with (first | (go_at_call_of 48 (Value.int .i64 k); refine hg.mono ?_; rintro e w' ⟨rfl, rfl⟩) | (go_at_call_of 48 (Value.int .i64 to); refine hg2.mono ?_; rintro e w' ⟨rfl, rfl⟩))
      go_ret
      exact H.out
    | some o2 =>
      obtain ⟨x2, _, _, _, _, hg2, _⟩ := h.focus hf2
      by_cases hkt : k = to
      · have H := hid (OverPost.no (R := fun w => PH w hb) (w := w) (fp := fp) (show ¬ A.OverOk k to from fun q => q.2.2 hkt))
        subst hkt
        clear hf hf2 h hx hxn hxf hclose hxo
        go_enter Try.func39, Try.ntmps39
        go_wp2_with (first | (go_at_call_of 48 (Value.int .i64 k); refine hg.mono ?_; rintro e w' ⟨rfl, rfl⟩) | (go_at_call_of 48 (Value.int .i64 k); refine hg2.mono ?_; rintro e w' ⟨rfl, rfl⟩))
        go_ret
        exact H.out
      · have hbk : (k == to) = false := by simpa using hkt
        have hok : A.OverOk k to := ⟨by rw [AH.has, hf]; simp, by rw [AH.has, hf2]; simp, hkt⟩
        have hob := hx.1
        have hl0 := lt_of_get hob
        have g0 := Grew.alloc w (.cells #[.int .i64 to] 3)
        have hob1 := g0.get hob (fun f => f)
        have c1 : w.cell? ⟨x.ob, 0, none⟩ = some (Kv x.o.tag) := by rw [cell_of_get hob]; rfl
        have c2 : w.cell? ⟨x.ob, 1, none⟩ = some x.pv := by rw [cell_of_get hob]; rfl
        have c3 : w.cell? ⟨x.ob, 2, none⟩ = some x.nv := by rw [cell_of_get hob]; rfl
        have z1 := frozen_of_get hob 0
        have z2 := frozen_of_get hob 1
        have z3 := frozen_of_get hob 2
        have hW := setCell_get (setCell_get (setCell_get hob1 0 (Kv 5)) 1 (.slice (some ⟨w.heap.size, 0, none⟩) 1 1)) 2 (.slice none 0 0)
        have hset : Fr (fun q => q = x.ob) (w.alloc (.cells #[.int .i64 to] 3)) ((((w.alloc (.cells #[.int .i64 to] 3)).setCell ⟨x.ob, 0, none⟩ (Kv 5)).setCell ⟨x.ob, 1, none⟩ (.slice (some ⟨w.heap.size, 0, none⟩) 1 1)).setCell ⟨x.ob, 2, none⟩ (.slice none 0 0)) :=
          (((Fr.refl (fun q => q = x.ob) _).setCell (p := ⟨x.ob, 0, none⟩) (fun _ => rfl) _).setCell (p := ⟨x.ob, 1, none⟩) (fun _ => rfl) _).setCell (p := ⟨x.ob, 2, none⟩) (fun _ => rfl) _
        obtain ⟨fp', q1, q2, q3, _⟩ := hclose _ ⟨k, ⟨5, [to], []⟩, x.ob, .slice (some ⟨w.heap.size, 0, none⟩) 1 1, .slice none 0 0⟩ rfl rfl
          ⟨by rw [hW]; rfl, (Ow.one w to).kept hset (fun g hg e => by simp [Value.ownBlock] at hg; omega), Ow.nil _⟩
          (g0.any.trans hset (fun i _ e => by subst e; simp [PO.blocks])) (by simp [PO.blocks, Value.ownBlock]) (by simp [PO.blocks, Value.ownBlock]; omega)
        rw [World.setCell_alloc_past _ _ _ _ hl0, World.setCell_alloc_past _ _ _ _ (by simpa [World.setCell] using hl0), World.setCell_alloc_past _ _ _ _ (by simpa [World.setCell] using hl0)] at q1 q3
        have H := hid (show OverPost (fun w => PH w hb) w A fp k to (.returned (.bool true)) _ from by
          unfold OverPost; rw [if_pos hok]; exact ⟨rfl, fp', q1, q3, q2⟩)
        clear hf hf2 h hx hxn hxf hclose hob hob1 hW hset q1 q2 q3 g0 hok hkt hxo
        go_enter Try.func39, Try.ntmps39
        go_wp2_with (first | (go_at_call_of 48 (Value.int .i64 k); refine hg.mono ?_; rintro e w' ⟨rfl, rfl⟩) | (go_at_call_of 48 (Value.int .i64 to); refine hg2.mono ?_; rintro e w' ⟨rfl, rfl⟩))
        go_ret
        exact H.out
end Go.Proofs.Ytjhdnbediipibaa
