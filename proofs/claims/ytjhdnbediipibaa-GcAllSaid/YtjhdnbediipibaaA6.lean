import Derived.Test.YtjhdnbediipibaaA5
import Derived.BigQuiet
import Derived.Deep.QuietTactic
import Derived.Deep.RegionWith
import Derived.Deep.RegionHeld3
/-! Alloc. -/
namespace Go.Proofs.Ytjhdnbediipibaa
open Go.RowKit

def osz (p n : List Int) : Int := max (1 + p.length + n.length) 2
def AH.has (A : AH) (k : Int) : Prop := A.find k ≠ none
instance (A : AH) (k : Int) : Decidable (A.has k) := by unfold AH.has; infer_instance
def AH.AllocOk (A : AH) (t : Int) (p n : List Int) : Prop := ShapeOk t p n ∧ (∀ x ∈ p, A.has x ∨ x = A.used) ∧ A.used + osz p n ≤ A.words
instance (A : AH) (t : Int) (p n : List Int) : Decidable (A.AllocOk t p n) := by unfold AH.AllocOk; infer_instance
def AH.add (A : AH) (t : Int) (p n : List Int) : AH := ⟨A.objs ++ [(A.used, ⟨t, p, n⟩)], A.used + osz p n, A.words⟩

/-- numbers that do not wrap, a place that is free -/
structure AH.Fine (A : AH) : Prop where
  u0 : 0 ≤ A.used
  uw : A.used ≤ A.words
  w0 : A.words ≤ 1000000
  free : A.find A.used = none
  few : A.objs.length ≤ 1000000


def AllocPost (w : World) (hb : Nat) (A : AH) (fp : List Nat) (t : Int) (p n : List Int) (e : Ending) (w' : World) : Prop :=
  if A.AllocOk t p n then e = .returned (.tuple #[Kv A.used, .bool true]) ∧ ∃ fp', PH w' hb (A.add t p n) fp' ∧ Fr (· ∈ fp) w w' ∧ ∀ b ∈ fp', b ∈ fp ∨ w.heap.size ≤ b
  else e = .returned (.tuple #[Kv 0, .bool false]) ∧ ∃ k, w' = w.drewN k

theorem AllocPost.no {w : World} {hb : Nat} {A : AH} {fp : List Nat} {t : Int} {p n : List Int} (h : ¬ A.AllocOk t p n) (k : Nat) : AllocPost w hb A fp t p n (.returned (.tuple #[Kv 0, .bool false])) (w.drewN k) := by
  unfold AllocPost; rw [if_neg h]; exact ⟨rfl, k, rfl⟩

theorem setCell_get {w : World} {b : Nat} {c : Array Value} {e : TypeId} {f : Nat × Nat} (h : w.heap[b]? = some (.cells c e f)) (i : Nat) (v : Value) :
    (w.setCell ⟨b, i, none⟩ v).heap[b]? = some (.cells (c.setIfInBounds i v) e f) := by
  simp [World.setCell, Array.getElem?_modify, h]

theorem setCell_other {w : World} {p : Addr} {k : Nat} (h : k ≠ p.block) (v : Value) : (w.setCell p v).heap[k]? = w.heap[k]? := Below.heap_setCell _ _ _ _ h

theorem putO_cell {w : World} {b : Nat} {p : Addr} (h : p.block ≠ b) (o : Obj) : (putO w b o).cell? p = w.cell? p := by
  simp [World.cell?, putO_other h]

theorem keep_alloc {w : World} {a : Addr} {v : Value} (o : Obj) (h : w.cell? a = some v) : (w.alloc o).cell? a = some v := Fr.cell (Fr.alloc (Fr.refl (fun _ => False) _) o) h (fun f => f)

/-- what Alloc leaves -/
theorem PH.added {w W : World} {hb mb : Nat} {A : AH} {es : Array MapEntry} {clock : Nat} {xs : List PO} {fp : List Nat}
    (h1 : w.heap[hb]? = some (.cells #[.map (some mb), Kv A.used, Kv A.words] 37 (0, 0))) (h2 : w.heap[mb]? = some (.map es clock))
    (h3 : EntsC es clock (xs.map PO.ent)) (h4 : A.objs = xs.map PO.pair) (h5 : ∀ x ∈ xs, x.holds w) (h6 : fp = hb :: mb :: xs.flatMap PO.blocks) (h7 : fp.Nodup)
    (hG : Grew w W) (x : PO) (hx : x.holds W) (hxa : x.at' = A.used) (hxb : ∀ b ∈ x.blocks, w.heap.size ≤ b) (hxn : x.blocks.Nodup) (u : Int) :
    ∃ fp', PH ((putO W mb (.map (es.push { key := Kv A.used, val := .pointer (some ⟨x.ob, 0, none⟩), born := clock }) (clock + 1))).setCell ⟨hb, 1, none⟩ (Kv u)) hb ⟨A.objs ++ [(A.used, x.o)], u, A.words⟩ fp' ∧
      Fr (· ∈ fp) w ((putO W mb (.map (es.push { key := Kv A.used, val := .pointer (some ⟨x.ob, 0, none⟩), born := clock }) (clock + 1))).setCell ⟨hb, 1, none⟩ (Kv u)) ∧
      ∀ b ∈ fp', b ∈ fp ∨ w.heap.size ≤ b := by
  have hlt : ∀ b ∈ fp, b < w.heap.size := by
    intro b hb'
    exact (show PH w hb A fp from ⟨mb, es, clock, xs, h1, h2, h3, h4, h5, h6, h7⟩).lt b hb'
  generalize hO : (Obj.map (es.push { key := Kv A.used, val := .pointer (some ⟨x.ob, 0, none⟩), born := clock }) (clock + 1)) = O
  have hne : hb ≠ mb := by rw [h6] at h7; simp at h7; exact fun e => h7.1.1 e
  have hW1 : (putO W mb O).heap[hb]? = some (.cells #[.map (some mb), Kv A.used, Kv A.words] 37 (0, 0)) := by
    rw [putO_other hne]; exact hG.get h1 (fun f => f)
  -- what else has turned: hb and mb alone
  have hF2 : Fr (fun k => k = hb ∨ k = mb) W ((putO W mb O).setCell ⟨hb, 1, none⟩ (Kv u)) :=
    ((Fr.refl _ W).putO (fun _ => .inr rfl) O).setCell (p := ⟨hb, 1, none⟩) (fun _ => .inl rfl) _
  have hF : Fr (fun k => k = hb ∨ k = mb) w ((putO W mb O).setCell ⟨hb, 1, none⟩ (Kv u)) := hG.any.trans hF2 (fun _ _ f => f)
  have hmemhb : hb ∈ fp := by rw [h6]; simp
  have hmemmb : mb ∈ fp := by rw [h6]; simp
  have hxfp : ∀ b ∈ x.blocks, b ∉ fp := fun b hbx hbf => by have := hlt b hbf; have := hxb b hbx; omega
  refine ⟨hb :: mb :: (xs ++ [x]).flatMap PO.blocks, ⟨mb, es.push { key := Kv A.used, val := .pointer (some ⟨x.ob, 0, none⟩), born := clock }, clock + 1, xs ++ [x], ?_, ?_, ?_, ?_, ?_, rfl, ?_⟩, hF.mono ?_, ?_⟩
  · rw [setCell_get hW1]; rfl
  · rw [setCell_other (Ne.symm hne), putO_get (hG.lt (lt_of_get h2)), ← hO]
  · have := h3.push A.used (.pointer (some ⟨x.ob, 0, none⟩))
    simpa [PO.ent, hxa] using this
  · simp [h4, PO.pair, hxa]
  · intro y hy
    rw [List.mem_append] at hy
    rcases hy with hy | hy
    · refine (h5 y hy).kept hF (fun b hby e => ?_)
      have hmem : b ∈ xs.flatMap PO.blocks := List.mem_flatMap.2 ⟨y, hy, hby⟩
      rw [h6] at h7
      simp only [List.nodup_cons, List.mem_cons, not_or] at h7
      rcases e with rfl | rfl
      · exact h7.1.2 hmem
      · exact h7.2.1 hmem
    · rw [List.mem_singleton] at hy
      subst hy
      refine hx.kept hF2 (fun b hby e => ?_)
      rcases e with rfl | rfl
      · exact hxfp _ hby hmemhb
      · exact hxfp _ hby hmemmb
  · rw [h6] at h7 hxfp
    simp only [List.nodup_cons, List.mem_cons, not_or, List.flatMap_append, List.mem_append, List.flatMap_cons, List.flatMap_nil, List.append_nil] at h7 hxfp ⊢
    refine ⟨⟨h7.1.1, h7.1.2, fun e => (hxfp _ e).1 rfl⟩, ⟨h7.2.1, fun e => (hxfp _ e).2.1 rfl⟩, ?_⟩
    rw [List.nodup_append]
    exact ⟨h7.2.2, hxn, fun a ha b hb' e => by subst e; exact (hxfp _ hb').2.2 ha⟩
  · intro i _ e
    rcases e with rfl | rfl
    · exact hmemhb
    · exact hmemmb
  · intro b hbm
    simp only [List.mem_cons, List.flatMap_append, List.mem_append, List.flatMap_cons, List.flatMap_nil, List.append_nil] at hbm
    rcases hbm with rfl | rfl | hbm | hbm
    · exact .inl hmemhb
    · exact .inl hmemmb
    · exact .inl (by rw [h6]; simp [hbm])
    · exact .inr (hxb b hbm)

set_option maxHeartbeats 1000000 in
set_option maxRecDepth 100000 in
theorem alloc_any {w : World} {hb : Nat} {A : AH} {fp : List Nat} (h : PH w hb A fp) (hF : A.Fine) (t : Int) {pv nv : Value} {p n : List Int} (hp : Ow w pv p) (hn : Ow w nv n) :
    Calls Try.prog 24 #[.pointer (some ⟨hb, 0, none⟩), .int .i64 t, pv, nv] w (AllocPost w hb A fp t p n) := by
  have hsh := shaped_any t hp hn
  by_cases hS : ShapeOk t p n
  · rw [shape_true hS] at hsh
    obtain ⟨mb, es, clock, xs, p1, p2, p3, p4, p5, p6, p7⟩ := id h
    have c0 : w.cell? ⟨hb, 0, none⟩ = some (.map (some mb)) := by rw [cell_of_get p1]; rfl
    have cu : w.cell? ⟨hb, 1, none⟩ = some (Kv A.used) := by rw [cell_of_get p1]; rfl
    have cw : w.cell? ⟨hb, 2, none⟩ = some (Kv A.words) := by rw [cell_of_get p1]; rfl
    have hfree : lookKV A.used (xs.map PO.ent) = none := by
      have hf := hF.free
      rw [AH.find, p4] at hf
      rcases look_pairs A.used xs with ⟨_, g2⟩ | ⟨x, _, _, g1, _⟩
      · exact g2
      · rw [hf] at g1; cases g1
    have hmu : ∀ W, Grew w W → ∀ ob : Nat, (Instr.mapUpdate 33 (.map (some mb)) (Kv A.used) (.pointer (some ⟨ob, 0, none⟩))).run Try.prog W =
        .ok () (putO W mb (.map (es.push { key := Kv A.used, val := .pointer (some ⟨ob, 0, none⟩), born := clock }) (clock + 1))) := by
      intro W hW ob
      exact run_put Try.prog Try.u3 Try.u33 (hW.get p2 (fun f => f)) p3.1 A.used _ hfree
    have HMU := hid hmu
    have hadd := fun (W : World) => PH.added (W := W) p1 p2 p3 p4 p5 p6 p7
    have HADD := hid hadd
    have hne : hb ≠ mb := by rw [p6] at p7; simp at p7; exact fun e => p7.1.1 e
    have HNE := hid hne
    have HP1 := hid p1
    have HPlt := hid (lt_of_get p2)
    clear hmu hadd hne p2 p3 p4 p5 p6 p7 hfree p1
    obtain ⟨pa, pc, hpv, hpc, hpm⟩ := hp.shape
    have hpl := hS.2.2.1
    have hnl := hS.2.2.2.1
    have hcell : ∀ i (hi : i < p.length), ∃ g, pa = some ⟨g, 0, none⟩ ∧ w.cell? ⟨g, i, none⟩ = some (Kv p[i]) := by
      intro i hi
      obtain ⟨g, cap, he, _, _, _, hc⟩ := hp.at (by omega)
      rw [hpv] at he; cases he
      exact ⟨g, rfl, (hc i hi).1⟩
    have HC := hid hcell
    have HP := hid h
    have HF := hid hF
    have HO := hid hp
    have HN := hid hn
    have HS := hid hS
    obtain ⟨na, nc, hnv, hnc, hnm⟩ := hn.shape
    subst hpv hnv
    clear hcell h hF hp hn hS hpm hnm
    go_enter Try.func24, Try.ntmps24
    go_wp2_with (go_at_call 47; refine hsh.mono ?_; rintro e w' ⟨rfl, rfl⟩)

    go_loop [11, 21] (fun _ i => ∃ k : Nat, k ≤ p.length ∧ i = .int .i64 k ∧ ∀ j (hj : j < k), ∀ x, p[j]? = some x → A.has x ∨ x = A.used) (fun _ i => p.length - (intOf i).toNat)
    case atStart => exact ⟨0, Nat.zero_le _, rfl, fun j hj => by omega⟩
    case round =>
      obtain ⟨k, hk, rfl, hall⟩ := hrel
      have HA := hid hall
      clear hall
      by_cases hlt : k < p.length
      · obtain ⟨g, rfl, hc⟩ := HC.out k hlt
        have hpk : p[k]? = some p[k] := List.getElem?_eq_getElem hlt
        generalize hz : p[k] = z at hc hpk
        clear hz
        have HK := hid hpk
        clear hpk
        have hstep : (A.has z ∨ z = A.used) → ∀ j (hj : j < k + 1), ∀ x, p[j]? = some x → A.has x ∨ x = A.used := by
          intro hz j hj x hx
          by_cases e : j = k
          · subst e; rw [HK.out] at hx; cases hx; exact hz
          · exact HA.out j (by omega) x hx
        cases hf : A.find z with
        | none =>
          have hg := get_none HP.out z hf
          by_cases hu : z = A.used
          · have e2 : (z != A.used) = false := by simpa using hu
            have HR := hid (hstep (.inr hu))
            clear hu hf hstep
            go_wp2_with (go_at_call 48; refine hg.mono ?_; rintro e w' ⟨rfl, rfl⟩)
            go_round
            case rel => exact ⟨k + 1, by omega, by go_num, HR.out⟩
            case measure => simp [intOf]; omega
          · have e2 : (z != A.used) = true := by simpa using hu
            have hno : ¬ A.AllocOk t p n := fun h => (h.2.1 z (List.mem_of_getElem? HK.out)).elim (fun q => q hf) hu
            have H := hid (AllocPost.no (w := w) (hb := hb) (fp := fp) hno 0)
            clear hu hf hstep hno
            go_wp2_with (go_at_call 48; refine hg.mono ?_; rintro e w' ⟨rfl, rfl⟩)
            go_ret2
            exact H.out
        | some o =>
          obtain ⟨ob, pv, nv, hg, _⟩ := get_some HP.out z hf
          have HR := hid (hstep (.inl (by unfold AH.has; rw [hf]; simp)))
          clear hf hstep
          go_wp2_with (go_at_call 48; refine hg.mono ?_; rintro e w' ⟨rfl, rfl⟩)
          go_round
          case rel => exact ⟨k + 1, by omega, by go_num, HR.out⟩
          case measure => simp [intOf]; omega
      · have hke : k = p.length := by omega
        subst hke
        clear hlt
        have hmax : ∀ w0 : World, (Builtin.max_ #[3, 3] 3 #[.int .i64 (1 + ↑p.length + ↑n.length), .int .i64 2]).run Try.prog w0 = .ok (.int .i64 (osz p n)) w0 := by
          intro w0
          have hmd : max (1 + (p.length : Int) + n.length) 2 = if 2 > 1 + (p.length : Int) + n.length then 2 else 1 + (p.length : Int) + n.length := by
            rw [Int.max_def]; split <;> split <;> omega
          simp [Builtin.max_, Builtin.max2, osz, hmd]
        have hosz : 2 ≤ osz p n ∧ osz p n ≤ 121 := by unfold osz; omega
        obtain ⟨ho1, ho2⟩ := hosz
        have hu0 := HF.out.u0
        have huw := HF.out.uw
        have hw0 := HF.out.w0
        by_cases hroom : A.words - A.used < osz p n
        · have hno : ¬ A.AllocOk t p n := fun h => by have := h.2.2; omega
          have H := hid (fun k => AllocPost.no (w := w) (hb := hb) (fp := fp) hno k)
          clear hno
          go_wp2
          go_quiet (fail)
          go_wp2
          go_ret2
          exact H.out _
        · have HOK := hid (show A.AllocOk t p n from ⟨HS.out, fun x hx => by
            obtain ⟨j, hj⟩ := List.mem_iff_getElem?.1 hx
            exact HA.out j (List.getElem?_eq_some_iff.1 hj).1 x hj, by omega⟩)
          go_wp2
          go_quiet (fail)
          go_wp2
          have hcl : ∀ (v : Value) (l : List Int), Ow w v l → l.length ≤ 60 → ∀ w', Grew w w' → Calls Try.prog 49 #[v] w' fun e w'' => ∃ a c, e = .returned (.slice a l.length c) ∧ Ow w'' (.slice a l.length c) l ∧ Grew w' w'' ∧ (∀ g, (Value.slice a l.length c).ownBlock = some g → w'.heap.size ≤ g) := by
            intro v l h hl w' hg
            refine (clone_any (h.kept hg (fun _ _ f => f)) (by omega)).mono ?_
            rintro e w'' ⟨v', rfl, h1, h2, h3⟩
            obtain ⟨a, c, rfl, _, _⟩ := h1.shape
            exact ⟨a, c, rfl, h1, h2, h3⟩
          have HCL := hid hcl
          have hmu := HMU.out
          clear hcl
          go_region_held3 (fun w' => w'.cell? ⟨hb, 0, none⟩ = some (.map (some mb)))
            (first
              | (simpa using c0)
              | exact Fr.cell ‹Grew _ _› ‹World.cell? _ _ = _› (fun f => f)
              | exact keep_alloc _ (by assumption)
              | exact (putO_cell (p := ⟨hb, 0, none⟩) HNE.out _).trans (by assumption))
            (first
              | (go_at_call_of 49 (Value.slice pa p.length pc); refine (HCL.out _ _ HO.out hpl _ ((Fr.refl _ w).drewN _).drew).mono ?_; rintro e w1 ⟨a1, c1, rfl, ho1, hg1, hf1⟩)
              | (go_at_call_of 49 (Value.slice na n.length nc); refine (HCL.out _ _ HN.out hnl _ (((Fr.refl _ w).drewN _).drew.trans ‹Grew _ _› (fun _ _ f => f))).mono ?_; rintro e w2 ⟨a2, c2, rfl, ho2, hg2, hf2⟩; have hGB : ∀ o, Grew w (w2.alloc o) := fun o => Fr.alloc ((((Fr.refl _ w).drewN _).drew.trans ‹Grew _ _› (fun _ _ f => f)).trans hg2 (fun _ _ f => f)) o))
          have hG1 : Grew w w1 := ((Fr.refl _ w).drewN _).drew.trans hg1 (fun _ _ f => f)
          have hG2 : Grew w w2 := hG1.trans hg2 (fun _ _ f => f)
          have hadd := HADD.out (w2.alloc (.cells #[.int .i64 t, .slice a1 p.length c1, .slice a2 n.length c2] 68)) (Fr.alloc hG2 _) ⟨A.used, ⟨t, p, n⟩, w2.heap.size, .slice a1 p.length c1, .slice a2 n.length c2⟩
            ⟨heap_alloc_new _ _, (ho1.kept hg2 (fun _ _ f => f)).kept (Grew.alloc _ _) (fun _ _ f => f), ho2.kept (Grew.alloc _ _) (fun _ _ f => f)⟩ rfl ?_ ?_ (A.used + osz p n)
          · obtain ⟨fp', hph, hfr, hfp⟩ := hadd
            have hW0 : (putO (w2.alloc (.cells #[.int .i64 t, .slice a1 p.length c1, .slice a2 n.length c2] 68)) mb (.map (es.push { key := Kv A.used, val := .pointer (some ⟨w2.heap.size, 0, none⟩), born := clock }) (clock + 1))).heap[hb]? = some (.cells #[.map (some mb), Kv A.used, Kv A.words] 37 (0, 0)) := by
              rw [putO_other HNE.out]; exact (Fr.alloc hG2 _).get HP1.out (fun f => f)
            have e0 := cell_of_get hW0 1
            have e2 := frozen_of_get hW0 1
            have HF' := hid (show AllocPost w hb A fp t p n (.returned (.tuple #[Kv A.used, .bool true])) _ from by
              unfold AllocPost; rw [if_pos HOK.out]; exact ⟨rfl, fp', hph, hfr, hfp⟩)
            clear hph hfr hfp hW0 hmu hmax
            go_wp2
            go_ret2
            exact HF'.out
          · intro b hb'
            have h0 := hG2.size
            have h1 := hG1.size
            simp only [PO.blocks, List.mem_cons, List.mem_append, Option.mem_toList] at hb'
            rcases hb' with rfl | hb' | hb'
            · exact h0
            · have := hf1 b hb'; simpa using this
            · have := hf2 b hb'; omega
          · have k1 : ∀ g, (Value.slice a1 p.length c1).ownBlock = some g → g < w1.heap.size := fun g hg => ho1.lt hg
            have k2 : ∀ g, (Value.slice a2 n.length c2).ownBlock = some g → g < w2.heap.size := fun g hg => ho2.lt hg
            have k3 := hg2.size
            simp only [PO.blocks]
            generalize (Value.slice a1 p.length c1).ownBlock = b1 at *
            generalize (Value.slice a2 n.length c2).ownBlock = b2 at *
            cases b1 <;> cases b2 <;> simp at * <;> omega
  · rw [shape_false hS] at hsh
    have hno : ¬ A.AllocOk t p n := fun h => hS h.1
    have H := hid (AllocPost.no (w := w) (hb := hb) (fp := fp) hno 0)
    clear hS hno h hF hp hn
    go_enter Try.func24, Try.ntmps24
    go_wp2_with (go_at_call 47; refine hsh.mono ?_; rintro e w' ⟨rfl, rfl⟩)
    go_ret2
    exact H.out
end Go.Proofs.Ytjhdnbediipibaa
