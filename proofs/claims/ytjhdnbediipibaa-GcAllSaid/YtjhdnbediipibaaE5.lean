import Derived.Test.YtjhdnbediipibaaE4
/-! The document's heap: Alloc. -/
namespace Go.Proofs.Ytjhdnbediipibaa
open Go.RowKit

theorem within11_any (a n : Int) (w : World) (hn : 0 < n) (hn2 : n ≤ 1000000) :
    Calls Try.prog 36 #[.int .i64 a, .int .i64 n] w fun e w' => e = .returned (Kv (a % n)) ∧ w = w' := by
  obtain ⟨h, h1, h2⟩ := emod_of_tmod a n hn
  have hne : (n == 0) = false := by simp; omega
  have hw1 : IntKind.i64.wrap (a.tmod n) = a.tmod n := IntWalk.i64_in _ (by omega)
  have hw2 : IntKind.i64.wrap (a.tmod n + n) = a.tmod n + n := IntWalk.i64_in _ (by omega)
  by_cases hc : a.tmod n < 0
  · rw [if_pos hc] at h
    have H := hid h
    clear h
    go_enter Try.func36, Try.ntmps36
    go_wp2
    go_ret
    exact ⟨by rw [← H.out]; rfl, rfl⟩
  · rw [if_neg hc] at h
    have H := hid h
    clear h
    go_enter Try.func36, Try.ntmps36
    go_wp2
    go_ret
    exact ⟨by rw [← H.out]; rfl, rfl⟩

def RAllocPost (w : World) (xb : Nat) (A : AH) (fp : List Nat) (t : Int) (p n : List Int) (e : Ending) (w' : World) : Prop :=
  if A.AllocOk t p n then e = .returned (.tuple #[Kv A.used, .bool true]) ∧ ∃ fp', RH w' xb (A.add t p n) fp' ∧ Fr (· ∈ fp) w w' ∧ ∀ b ∈ fp', b ∈ fp ∨ w.heap.size ≤ b
  else e = .returned (.tuple #[Kv 0, .bool false]) ∧ Grew w w'
theorem RAllocPost.no {w : World} {xb : Nat} {A : AH} {fp : List Nat} {t : Int} {p n : List Int} (h : ¬ A.AllocOk t p n) {w' : World} (g : Grew w w') : RAllocPost w xb A fp t p n (.returned (.tuple #[Kv 0, .bool false])) w' := by
  unfold RAllocPost; rw [if_neg h]; exact ⟨rfl, g⟩

theorem quiet_same {P : Program} {f : FuncId} {args : Array Value} {w : World} {n : Nat} {v : Value}
    (h : Calls P f args (w.drewN n) fun e w' => e = .returned v ∧ w.drewN n = w') : Calls P f args (w.drewN n) fun e w'' => e = .returned v ∧ ∃ m, w'' = w.drewN m :=
  h.mono fun _ _ ⟨he, hm⟩ => ⟨he, n, hm.symm⟩
theorem rfind_all {w : World} {xb : Nat} {A : AH} {fp : List Nat} {lv : Value} {xs : List PO} (h : RX w xb A fp lv xs) (hlen : A.objs.length ≤ 1000000) (k : Int) (w' : World) (g : Grew w w') :
    Calls Try.prog 62 #[.pointer (some ⟨xb, 0, none⟩), .int .i64 k] w' fun e w'' => e = .returned (ptrOf (lookP k xs)) ∧ w' = w'' :=
  rfind (h.kept g (fun _ _ f => f)) hlen k

theorem max_flip (p n : Nat) : ∀ w0 : World, (Builtin.max_ #[3, 3] 3 #[.int .i64 2, .int .i64 (1 + ↑p + ↑n)]).run Try.prog w0 = .ok (.int .i64 (max (1 + (p : Int) + n) 2)) w0 := by
  intro w0
  have hmd : max (1 + (p : Int) + n) 2 = if 1 + (p : Int) + n > 2 then 1 + (p : Int) + n else 2 := by
    rw [Int.max_def]; split <;> split <;> omega
  simp [Builtin.max_, Builtin.max2, hmd]

set_option maxHeartbeats 2000000 in
set_option maxRecDepth 100000 in
theorem ralloc_any {w : World} {xb : Nat} {A : AH} {fp : List Nat} (h : RH w xb A fp) (hF : A.Fine) (t : Int) {pv nv : Value} {p n : List Int} (hp : Ow w pv p) (hn : Ow w nv n)
    (hpl : p.length ≤ 1000) (hnl : n.length ≤ 1000) :
    Calls Try.prog 56 #[.pointer (some ⟨xb, 0, none⟩), .int .i64 t, pv, nv] w (RAllocPost w xb A fp t p n) := by
  obtain ⟨pa, pc, rfl, hpc, _⟩ := hp.shape
  obtain ⟨na, nc, rfl, hnc, _⟩ := hn.shape
  have hsh := fun k => rshape_any (w := w.drewN k) t (hp.kept ((Fr.refl (fun _ => False) w).drewN k) (fun _ _ f => f)) (hn.kept ((Fr.refl (fun _ => False) w).drewN k) (fun _ _ f => f))
  by_cases hS : ShapeOk t p n
  · rw [shape_true hS] at hsh
    obtain ⟨lv, xs, hx⟩ := id h
    obtain ⟨cw, cu, _⟩ := hx.cells
    have hfind := rfind_all hx hF.few
    have hmax := max_flip p.length n.length
    rw [show max (1 + (p.length : Int) + n.length) 2 = osz p n from rfl] at hmax
    have hosz : 2 ≤ osz p n ∧ osz p n ≤ 2001 := by unfold osz; omega
    obtain ⟨ho1, ho2⟩ := hosz
    have hu0 := hF.u0
    have huw := hF.uw
    have hw0 := hF.w0
    by_cases hroom : A.words < A.used + osz p n
    · have hno : ¬ A.AllocOk t p n := fun h => by have := h.2.2; omega
      have H := hid (fun k => RAllocPost.no (xb := xb) (fp := fp) hno ((Fr.refl (fun _ => False) w).drewN k))
      clear hno h hx hfind hF hp hn hS
      go_enter Try.func56, Try.ntmps56
      go_wp2
      go_quiet (first | (go_at_call 68; exact quiet_same (hsh _)))
      go_wp2
      go_ret2
      exact H.out _
    · have HS := hid hS
      have HH := hid h
      have HPU := hid (fun (W : World) (g : Grew w W) => rput_any (h.grew g) hF.few hu0 (by omega) t (hp.kept g (fun _ _ f => f)) (hn.kept g (fun _ _ f => f)) hpl hnl)
      have HX := hid hx
      have hcell : ∀ i (hi : i < p.length), ∃ g, pa = some ⟨g, 0, none⟩ ∧ w.cell? ⟨g, i, none⟩ = some (Kv p[i]) := by
        intro i hi
        obtain ⟨g, cap, he, _, _, _, hc⟩ := hp.at (by omega)
        cases he
        exact ⟨g, rfl, (hc i hi).1⟩
      have HC := hid hcell
      have HCU := hid cu
      have HFIND := hid hfind
      clear h hx hF hp hn hS hcell hfind
      go_enter Try.func56, Try.ntmps56
      go_wp2
      go_quiet (first | (go_at_call 68; exact quiet_same (hsh _)))
      go_wp2
      clear cu cw hsh hmax
      go_loopw [10] (fun i wr => ∃ k : Nat, k ≤ p.length ∧ i = .int .i64 k ∧ Grew w wr ∧ ∀ j (hj : j < k), ∀ x, p[j]? = some x → A.has x ∨ x = A.used) (fun i _ => p.length - (intOf i).toNat)
      case atStart => exact ⟨0, Nat.zero_le _, rfl, (Fr.refl _ _).drewN _, fun j hj => by omega⟩
      case round =>
        obtain ⟨k, hk, rfl, hgr, hall⟩ := hrel
        have HA := hid hall
        have cu := hgr.cell HCU.out (fun f => f)
        clear hall
        by_cases hlt : k < p.length
        · obtain ⟨g, rfl, hc⟩ := HC.out k hlt
          replace hc := hgr.cell hc (fun f => f)
          have hpk : p[k]? = some p[k] := List.getElem?_eq_getElem hlt
          generalize hz : p[k] = z at hc hpk
          clear hz
          have HK := hid hpk
          clear hpk
          have hstep : (A.has z ∨ z = A.used) → ∀ j (hj : j < k + 1), ∀ x, p[j]? = some x → A.has x ∨ x = A.used := by
            intro hz j hj x hx
            by_cases e : j = k
            · subst e; rw [HK.out] at hx; cases hx; exact hz
            · exact HA.out j (by omega) x hx
          have hff := HX.out.find z
          have hfz := fun n => HFIND.out z (wr.drewN n) (hgr.drewN n)
          have HGR := hid hgr
          cases hf : lookP z xs with
          | none =>
            rw [hf] at hfz hff
            simp only [ptrOf] at hfz
            by_cases hu : z = A.used
            · have e2 : (z != A.used) = false := by simpa using hu
              have HR := hid (hstep (.inr hu))
              clear hu hf hff hstep hgr
              go_upto_region 6 with (fail)
              go_quiet (first | (go_at_call 62; exact quiet_same (hfz _)))
              go_wp2
              go_roundw
              case rel => exact ⟨k + 1, by omega, by go_num, HGR.out.drewN _, HR.out⟩
              case measure => simp [intOf]; omega
            · have e2 : (z != A.used) = true := by simpa using hu
              have hno : ¬ A.AllocOk t p n := fun h => (h.2.1 z (List.mem_of_getElem? HK.out)).elim (fun q => q hff) hu
              have H := hid (fun k => RAllocPost.no (xb := xb) (fp := fp) hno (HGR.out.drewN k))
              clear hu hf hff hstep hno hgr
              go_upto_region 6 with (fail)
              go_quiet (first | (go_at_call 62; exact quiet_same (hfz _)))
              go_wp2
              go_ret2
              exact H.out _
          | some y =>
            rw [hf] at hfz hff
            simp only [ptrOf, PO.ptr] at hfz
            have HR := hid (hstep (.inl (by unfold AH.has; rw [hff]; simp)))
            clear hf hff hstep hgr
            go_upto_region 6 with (fail)
            go_quiet (first | (go_at_call 62; exact quiet_same (hfz _)))
            go_wp2
            go_roundw
            case rel => exact ⟨k + 1, by omega, by go_num, HGR.out.drewN _, HR.out⟩
            case measure => simp [intOf]; omega
        · have hke : k = p.length := by omega
          subst hke
          have hok : A.AllocOk t p n := ⟨HS.out, fun x hx => by
            obtain ⟨j, hj⟩ := List.mem_iff_getElem?.1 hx
            exact HA.out j (List.getElem?_eq_some_iff.1 hj).1 x hj, by omega⟩
          have HOK := hid hok
          have hpu := HPU.out wr hgr
          have HGR := hid hgr
          clear hok hgr hk
          go_upto_region 8 with (fail)
          clear hlt
          go_wp2_with fail
          refine hpu.mono ?_
          rintro e w9 ⟨rfl, fp', q1, q2, q3⟩
          have H := hid (show RAllocPost w xb A fp t p n (.returned (.tuple #[Kv A.used, .bool true])) w9 from by
            unfold RAllocPost; rw [if_pos HOK.out]
            exact ⟨rfl, fp', q1, (Grew.any HGR.out).trans q2 (fun _ _ f => f), fun b hb => by
              have := HGR.out.size
              rcases q3 b hb with e | e
              · exact .inl e
              · exact .inr (by omega)⟩)
          clear hpu q1 q2 q3
          go_wp2
          go_ret2
          exact H.out
  · rw [shape_false hS] at hsh
    have hno : ¬ A.AllocOk t p n := fun h => hS h.1
    have H := hid (fun k => RAllocPost.no (xb := xb) (fp := fp) hno ((Fr.refl (fun _ => False) w).drewN k))
    clear hS hno h hF hp hn
    go_enter Try.func56, Try.ntmps56
    go_wp2
    go_quiet (first | (go_at_call 68; exact quiet_same (hsh _)))
    go_wp2
    go_ret2
    exact H.out _
end Go.Proofs.Ytjhdnbediipibaa
