import Derived.Test.YtjhdnbediipibaaA6
/-! Set, Over. -/
namespace Go.Proofs.Ytjhdnbediipibaa
open Go.RowKit

def updO (k : Int) (o : HObj) : List (Int × HObj) → List (Int × HObj)
  | [] => []
  | p :: r => if k = p.1 then (p.1, o) :: r else p :: updO k o r
def AH.upd (A : AH) (k : Int) (o : HObj) : AH := ⟨updO k o A.objs, A.used, A.words⟩

theorem focus_list (k : Int) (o : HObj) : ∀ xs : List PO, lookO k (xs.map PO.pair) = some o → ∃ l x r, xs = l ++ x :: r ∧ x.at' = k ∧ x.o = o ∧
    lookKV k (xs.map PO.ent) = some (.pointer (some ⟨x.ob, 0, none⟩)) ∧ (∀ x' : PO, x'.at' = k → x'.ob = x.ob → updO k x'.o (xs.map PO.pair) = (l ++ x' :: r).map PO.pair ∧ (l ++ x' :: r).map PO.ent = xs.map PO.ent)
  | [], h => by simp [lookO] at h
  | x :: xs, h => by
    by_cases hk : k = x.at'
    · refine ⟨[], x, xs, rfl, hk.symm, ?_, ?_, ?_⟩
      · simpa [lookO, PO.pair, hk] using h
      · simp [lookKV, PO.ent, hk]
      · intro x' h1 h2
        simp [updO, PO.pair, PO.ent, hk, h1, h2]
    · have h' : lookO k (xs.map PO.pair) = some o := by simpa [lookO, PO.pair, hk] using h
      obtain ⟨l, y, r, rfl, h1, h2, h3, h4⟩ := focus_list k o xs h'
      refine ⟨x :: l, y, r, rfl, h1, h2, ?_, ?_⟩
      · simp only [List.map_cons, lookKV, PO.ent, hk, if_false]; exact h3
      · intro x' g1 g2
        obtain ⟨g3, g4⟩ := h4 x' g1 g2
        have hk' : ¬ k = (PO.pair x).1 := hk
        constructor
        · simp only [List.cons_append, List.map_cons, updO, hk', if_false]; rw [g3]
        · simp only [List.cons_append, List.map_cons]; rw [g4]

theorem PH.focus {w : World} {hb : Nat} {A : AH} {fp : List Nat} (h : PH w hb A fp) {k : Int} {o : HObj} (hk : A.find k = some o) :
    ∃ x : PO, x.o = o ∧ x.holds w ∧ x.blocks.Nodup ∧ (∀ b ∈ x.blocks, b ∈ fp) ∧
      Calls Try.prog 48 #[.pointer (some ⟨hb, 0, none⟩), .int .i64 k] w (fun e w' => e = .returned (.pointer (some ⟨x.ob, 0, none⟩)) ∧ w = w') ∧
      ∀ (W : World) (x' : PO), x'.at' = k → x'.ob = x.ob → x'.holds W → Fr (· ∈ x.blocks) w W → (∀ b ∈ x'.blocks, b ∈ x.blocks ∨ w.heap.size ≤ b) → x'.blocks.Nodup →
        ∃ fp', PH W hb (A.upd k x'.o) fp' ∧ (∀ b ∈ fp', b ∈ fp ∨ w.heap.size ≤ b) ∧ Fr (· ∈ fp) w W ∧ (x'.blocks = x.blocks → fp' = fp) := by
  obtain ⟨ob, pv, nv, hget, hob, _⟩ := get_some h k hk
  have hlt := h.lt
  obtain ⟨mb, es, clock, xs, h1, h2, h3, h4, h5, h6, h7⟩ := h
  have hk' : lookO k (xs.map PO.pair) = some o := by rw [← h4]; exact hk
  obtain ⟨l, x, r, rfl, g1, g2, g3, g4⟩ := focus_list k o xs hk'
  have hx : x.holds w := h5 x (by simp)
  have hn : x.blocks.Nodup := by
    rw [h6] at h7
    simp only [List.nodup_cons, List.flatMap_append, List.flatMap_cons, List.nodup_append] at h7
    exact h7.2.2.2.1.1
  have hfp : ∀ b ∈ x.blocks, b ∈ fp := fun b hb' => by rw [h6]; simp [hb']
  refine ⟨x, g2, hx, hn, hfp, ?_, ?_⟩
  · have hc0 : w.cell? ⟨hb, 0, none⟩ = some (.map (some mb)) := by rw [cell_of_get h1]; rfl
    have hr := run_look Try.prog Try.u3 Try.u33 (zero64 w) h2 h3.1 k false
    rw [g3] at hr
    simp only [Option.getD_some, Bool.false_eq_true, if_false] at hr
    clear hget hob hlt h1 h2 h3 h4 h5 h6 h7 hk' g4 hx hn hfp hk
    go_enter Try.func48, Try.ntmps48
    go_wp2
    go_ret
    exact ⟨rfl, rfl⟩
  · intro W x' a1 a2 a3 a4 a5 a6
    obtain ⟨g5, g6⟩ := g4 x' a1 a2
    subst h6
    simp only [List.nodup_cons, List.mem_cons, not_or, List.flatMap_append, List.mem_append, List.flatMap_cons, List.nodup_append] at h7
    obtain ⟨⟨n1, n2, n3, n4⟩, ⟨n5, n6, n7⟩, n8, ⟨n9, n10, n11⟩, n12⟩ := h7
    have hhb : hb < w.heap.size := hlt hb (by simp)
    have hmb : mb < w.heap.size := hlt mb (by simp)
    have hlt2 : ∀ y ∈ l ++ x :: r, ∀ b ∈ y.blocks, b < w.heap.size := fun y hy b hb' => (h5 y hy).lt b hb'
    have hin : ∀ b ∈ x'.blocks, b < w.heap.size → b ∈ x.blocks := fun b hb' hl => (a5 b hb').resolve_right (by omega)
    refine ⟨hb :: mb :: (l ++ x' :: r).flatMap PO.blocks, ⟨mb, es, clock, l ++ x' :: r, a4.get h1 n3, a4.get h2 n6, ?_, ?_, ?_, rfl, ?_⟩, ?_, a4.mono (fun i _ hi => hfp i hi), ?_⟩
    · rw [g6]; exact h3
    · show updO k x'.o A.objs = _
      rw [h4, g5]
    · intro y hy
      simp only [List.mem_append, List.mem_cons] at hy
      rcases hy with hy | rfl | hy
      · exact (h5 y (by simp [hy])).kept a4 (fun b hb' hbx => n12 b (List.mem_flatMap.2 ⟨y, hy, hb'⟩) b (.inl hbx) rfl)
      · exact a3
      · exact (h5 y (by simp [hy])).kept a4 (fun b hb' hbx => n11 b hbx b (List.mem_flatMap.2 ⟨y, hy, hb'⟩) rfl)
    · simp only [List.nodup_cons, List.mem_cons, not_or, List.flatMap_append, List.mem_append, List.flatMap_cons, List.nodup_append]
      refine ⟨⟨n1, n2, fun e => n3 (hin _ e hhb), n4⟩, ⟨n5, fun e => n6 (hin _ e hmb), n7⟩, n8, ⟨a6, n10, fun a ha b hb' e => ?_⟩, fun a ha b hb' e => ?_⟩
      · subst e
        obtain ⟨y, hy, hby⟩ := List.mem_flatMap.1 hb'
        exact n11 a (hin a ha (hlt2 y (by simp [hy]) a hby)) a hb' rfl
      · subst e
        obtain ⟨y, hy, hby⟩ := List.mem_flatMap.1 ha
        rcases hb' with hb' | hb'
        · exact n12 a ha a (.inl (hin a hb' (hlt2 y (by simp [hy]) a hby))) rfl
        · exact n12 a ha a (.inr hb') rfl
    · intro b hbm
      simp only [List.mem_cons, List.flatMap_append, List.mem_append, List.flatMap_cons] at hbm ⊢
      rcases hbm with hbm | hbm | hbm | hbm | hbm
      · exact .inl (.inl hbm)
      · exact .inl (.inr (.inl hbm))
      · exact .inl (.inr (.inr (.inl hbm)))
      · rcases a5 b hbm with q | q
        · exact .inl (.inr (.inr (.inr (.inl q))))
        · exact .inr q
      · exact .inl (.inr (.inr (.inr (.inr hbm))))
    · intro e
      simp [e]

def AH.SetOk (A : AH) (k i to : Int) : Prop := A.has k ∧ A.has to ∧ 0 ≤ i ∧ i < (A.ptrs k).length
instance (A : AH) (k i to : Int) : Decidable (A.SetOk k i to) := by unfold AH.SetOk; infer_instance
def AH.obj (A : AH) (k : Int) : HObj := (A.find k).getD ⟨0, [], []⟩
def AH.set (A : AH) (k i to : Int) : AH := A.upd k { A.obj k with ptrs := (A.obj k).ptrs.set i.toNat to }

def SetPost (w : World) (hb : Nat) (A : AH) (fp : List Nat) (k i to : Int) (e : Ending) (w' : World) : Prop :=
  if A.SetOk k i to then e = .returned (.bool true) ∧ PH w' hb (A.set k i to) fp ∧ Fr (· ∈ fp) w w'
  else e = .returned (.bool false) ∧ w = w'

theorem SetPost.no {w : World} {hb : Nat} {A : AH} {fp : List Nat} {k i to : Int} (h : ¬ A.SetOk k i to) : SetPost w hb A fp k i to (.returned (.bool false)) w := by
  unfold SetPost; rw [if_neg h]; exact ⟨rfl, rfl⟩

theorem Ow.set {w : World} {g cap : Nat} {l : List Int} (h : Ow w (.slice (some ⟨g, 0, none⟩) l.length cap) l) (i : Nat) (v : Int) :
    Ow (w.setCell ⟨g, i, none⟩ (Kv v)) (.slice (some ⟨g, 0, none⟩) (l.set i v).length cap) (l.set i v) := by
  rcases h.2 with ⟨h1, h2⟩ | ⟨g', cap', cur, hv, hb, hg, hn, hm, hs, ht⟩
  · cases h1
  · cases hv
    refine ⟨by simp, .inr ⟨g, cap, cur.setIfInBounds i (Kv v), rfl, hb, setCell_get hg i _, by simpa using hn, hm, by simpa using hs, ?_⟩⟩
    rw [Array.toList_setIfInBounds, List.length_set, List.take_set, ht, List.map_set]

set_option maxHeartbeats 1000000 in
set_option maxRecDepth 100000 in
theorem set_any {w : World} {hb : Nat} {A : AH} {fp : List Nat} (h : PH w hb A fp) (k i to : Int) (hS : A.Shaped) :
    Calls Try.prog 30 #[.pointer (some ⟨hb, 0, none⟩), .int .i64 k, .int .i64 i, .int .i64 to] w (SetPost w hb A fp k i to) := by
  cases hf : A.find k with
  | none =>
    have hg := get_none h k hf
    have H := hid (SetPost.no (w := w) (hb := hb) (fp := fp) (show ¬ A.SetOk k i to from fun q => q.1 hf))
    clear hf h hS
    go_enter Try.func30, Try.ntmps30
    go_wp2_with (go_at_call 48; refine hg.mono ?_; rintro e w' ⟨rfl, rfl⟩)
    go_ret
    exact H.out
  | some o =>
    obtain ⟨x, hxo, hx, hxn, hxf, hg, hclose⟩ := h.focus hf
    obtain ⟨_, cp, _⟩ := cells_ob hx.1
    obtain ⟨pa, pc, hpv, hpl, hpm⟩ := hx.2.1.shape
    cases hf2 : A.find to with
    | none =>
      have hg2 := get_none h to hf2
      have H := hid (SetPost.no (w := w) (hb := hb) (fp := fp) (show ¬ A.SetOk k i to from fun q => q.2.1 hf2))
      clear hf hf2 h hS hx hxn hxf hclose cp hpv hpl hpm hxo
      go_enter Try.func30, Try.ntmps30
      go_wp2_with (first | (go_at_call_of 48 (Value.int .i64 k); refine hg.mono ?_; rintro e w' ⟨rfl, rfl⟩) | (go_at_call_of 48 (Value.int .i64 to); refine hg2.mono ?_; rintro e w' ⟨rfl, rfl⟩))
      go_ret
      exact H.out
    | some o2 =>
      obtain ⟨_, _, _, _, _, hg2, _⟩ := h.focus hf2
      have hlen := (hS.find hf).2.2.1
      rw [← hxo] at hlen
      by_cases hi0 : i < 0
      · have H := hid (SetPost.no (w := w) (hb := hb) (fp := fp) (show ¬ A.SetOk k i to from fun q => by have := q.2.2.1; omega))
        clear hf hf2 h hS hx hxn hxf hclose hpl hpm hxo hlen
        rw [hpv] at cp
        clear hpv
        go_enter Try.func30, Try.ntmps30
        go_wp2_with (first | (go_at_call_of 48 (Value.int .i64 k); refine hg.mono ?_; rintro e w' ⟨rfl, rfl⟩) | (go_at_call_of 48 (Value.int .i64 to); refine hg2.mono ?_; rintro e w' ⟨rfl, rfl⟩))
        go_ret
        exact H.out
      · by_cases hil : i < x.o.ptrs.length
        · obtain ⟨m, rfl⟩ := Int.eq_ofNat_of_zero_le (show 0 ≤ i by omega)
          have hm : m < x.o.ptrs.length := by omega
          obtain ⟨g, cap, hpv2, _, _, _, hcell⟩ := hx.2.1.at (by omega)
          obtain ⟨hc, hfz⟩ := hcell m hm
          have hown := hx.2.1
          rw [hpv2] at hown cp
          have hpost : SetPost w hb A fp k m to (.returned (.bool true)) (w.setCell ⟨g, m, none⟩ (Kv to)) := by
            have hok : A.SetOk k m to := ⟨by rw [AH.has, hf]; simp, by rw [AH.has, hf2]; simp, by omega, by
              simp only [AH.ptrs, hf, Option.map_some, Option.getD_some]; rw [← hxo]; exact hil⟩
            unfold SetPost; rw [if_pos hok]
            have hbl : x.blocks = x.ob :: (g :: x.nv.ownBlock.toList) := by simp [PO.blocks, hpv2, Value.ownBlock]
            have hfr : Fr (· ∈ x.blocks) w (w.setCell ⟨g, m, none⟩ (Kv to)) := (Fr.refl _ w).setCell (fun _ => by rw [hbl]; simp) _
            rw [hbl] at hxn
            have hne1 : x.ob ≠ g := by simp at hxn; exact fun e => hxn.1.1 e
            have hne2 : ∀ q, x.nv.ownBlock = some q → q ≠ g := by intro q hq e; subst e; simp [hq] at hxn
            have hfg : Fr (fun q => q = g) w (w.setCell ⟨g, m, none⟩ (Kv to)) := (Fr.refl (fun q => q = g) w).setCell (p := ⟨g, m, none⟩) (fun _ => rfl) _
            obtain ⟨fp', q1, _, q3, q4⟩ := hclose (w.setCell ⟨g, m, none⟩ (Kv to)) ⟨k, { x.o with ptrs := x.o.ptrs.set m to }, x.ob, .slice (some ⟨g, 0, none⟩) (x.o.ptrs.set m to).length cap, x.nv⟩ rfl rfl
              ⟨by rw [hfg.block _ (lt_of_get hx.1) hne1, List.length_set, hx.1, hpv2], hown.set m to, hx.2.2.kept hfg hne2⟩ hfr (by rw [hbl]; simp [PO.blocks, Value.ownBlock]; grind) (by simpa [PO.blocks, Value.ownBlock] using hxn)
            have e4 := q4 (by rw [hbl]; simp [PO.blocks, Value.ownBlock])
            subst e4
            refine ⟨rfl, ?_, q3⟩
            have eo : A.obj k = x.o := by simp [AH.obj, hf, hxo]
            unfold AH.set
            rw [eo]
            exact q1
          have H := hid hpost
          have hil2 : ¬ ((x.o.ptrs.length : Int) ≤ m) := by omega
          clear hf hf2 h hS hx hxn hxf hclose hpl hpm hxo hpv hpv2 hcell hpost hown hi0 hil
          go_enter Try.func30, Try.ntmps30
          go_wp2_with (first | (go_at_call_of 48 (Value.int .i64 k); refine hg.mono ?_; rintro e w' ⟨rfl, rfl⟩) | (go_at_call_of 48 (Value.int .i64 to); refine hg2.mono ?_; rintro e w' ⟨rfl, rfl⟩))
          go_ret
          exact H.out
        · have H := hid (SetPost.no (w := w) (hb := hb) (fp := fp) (show ¬ A.SetOk k i to from fun q => by have := q.2.2.2; simp only [AH.ptrs, hf, Option.map_some, Option.getD_some] at this; rw [← hxo] at this; exact hil this))
          have hil' : (x.o.ptrs.length : Int) ≤ i := by omega
          clear hf hf2 h hS hx hxn hxf hclose hpl hpm hxo hil
          rw [hpv] at cp
          clear hpv
          go_enter Try.func30, Try.ntmps30
          go_wp2_with (first | (go_at_call_of 48 (Value.int .i64 k); refine hg.mono ?_; rintro e w' ⟨rfl, rfl⟩) | (go_at_call_of 48 (Value.int .i64 to); refine hg2.mono ?_; rintro e w' ⟨rfl, rfl⟩))
          go_ret
          exact H.out
end Go.Proofs.Ytjhdnbediipibaa
