import Derived.Test.YtjhdnbediipibaaB3
import Derived.OpenShut
/-! The laws' small functions: within, Ints. -/
namespace Go.Proofs.Ytjhdnbediipibaa
open Go.RowKit

theorem emod_of_tmod (a n : Int) (hn : 0 < n) : (if a.tmod n < 0 then a.tmod n + n else a.tmod n) = a % n ∧ -n ≤ a.tmod n ∧ a.tmod n < n := by
  rw [Int.tmod_eq_emod]
  have := Int.emod_nonneg a (by omega : n ≠ 0)
  have := Int.emod_lt_of_pos a hn
  have hd : n ∣ a → a % n = 0 := Int.emod_eq_zero_of_dvd
  by_cases hc : 0 ≤ a ∨ n ∣ a
  · rw [if_pos hc]
    refine ⟨by split <;> omega, by omega, by omega⟩
  · rw [if_neg hc]
    have hne : a % n ≠ 0 := fun e => hc (.inr (Int.dvd_of_emod_eq_zero e))
    refine ⟨by split <;> omega, by omega, by omega⟩

theorem within12_any (a n : Int) (w : World) (hn : 0 < n) (hn2 : n ≤ 1000000) :
    Calls Try.prog 23 #[.int .i64 a, .int .i64 n] w fun e w' => e = .returned (Kv (a % n)) ∧ w = w' := by
  obtain ⟨h, h1, h2⟩ := emod_of_tmod a n hn
  have hne : (n == 0) = false := by simp; omega
  have hw1 : IntKind.i64.wrap (a.tmod n) = a.tmod n := IntWalk.i64_in _ (by omega)
  have hw2 : IntKind.i64.wrap (a.tmod n + n) = a.tmod n + n := IntWalk.i64_in _ (by omega)
  by_cases hc : a.tmod n < 0
  · rw [if_pos hc] at h
    have H := hid h
    clear h
    go_enter Try.func23, Try.ntmps23
    go_wp2
    go_ret
    exact ⟨by rw [← H.out]; rfl, rfl⟩
  · rw [if_neg hc] at h
    have H := hid h
    clear h
    go_enter Try.func23, Try.ntmps23
    go_wp2
    go_ret
    exact ⟨by rw [← H.out]; rfl, rfl⟩

theorem ints_any {w : World} {u v : Value} {l m : List Int} (hu : Ow w u l) (hv : Ow w v m) (hl : l.length ≤ 1000000) :
    Calls Try.prog 28 #[u, v] w fun e w' => e = .returned (.bool (decide (l = m))) ∧ Grew w w' := by
  obtain ⟨ua, uc, rfl, huc, _⟩ := hu.shape
  obtain ⟨va, vc, rfl, hvc, _⟩ := hv.shape
  by_cases hlm : l.length = m.length
  · have hb : ((l.length : Int) != m.length) = false := by simp [hlm]
    have HU := hid hu
    have HV := hid hv
    have HL := hid hlm
    clear hu hv hlm
    go_enter Try.func28, Try.ntmps28
    go_wp2
    go_loopw [5] (fun i wr => ∃ k : Nat, k ≤ l.length ∧ i = .int .i64 k ∧ Grew w wr ∧ l.take k = m.take k) (fun i _ => l.length - (intOf i).toNat)
    case atStart => exact ⟨0, Nat.zero_le _, rfl, Fr.refl _ _, rfl⟩
    case round =>
      obtain ⟨k, hk, rfl, hg, ht⟩ := hrel
      by_cases hlt : k < l.length
      · have hltm : k < m.length := by rw [← HL.out]; exact hlt
        obtain ⟨g1, c1, e1, _, _, _, h1⟩ := (HU.out.kept hg (fun _ _ f => f)).at (by omega)
        obtain ⟨g2, c2, e2, _, _, _, h2⟩ := (HV.out.kept hg (fun _ _ f => f)).at (by omega)
        cases e1
        cases e2
        have d1 := (h1 k hlt).1
        have d2 := (h2 k hltm).1
        by_cases he : l[k] = m[k]
        · have hne : (l[k] != m[k]) = false := by simp [he]
          have HT := hid (show l.take (k + 1) = m.take (k + 1) by rw [List.take_succ_eq_append_getElem hlt, List.take_succ_eq_append_getElem hltm, ht, he])
          have HG := hid hg
          generalize l[k] = z1 at *
          generalize m[k] = z2 at *
          clear h1 h2 he ht hg
          go_wp2
          go_quiet (fail)
          go_wp2
          go_roundw
          case rel => exact ⟨k + 1, by omega, by go_num, HG.out.drewN _, HT.out⟩
          case measure => simp [intOf]; omega
        · have hne : (l[k] != m[k]) = true := by simpa using he
          have hno : l ≠ m := fun e => he (by subst e; rfl)
          have HD := hid (show decide (l = m) = false by simpa using hno)
          have HG := hid hg
          generalize l[k] = z1 at *
          generalize m[k] = z2 at *
          clear h1 h2 he ht hg hno
          go_wp2
          go_quiet (fail)
          go_wp2
          go_ret
          exact ⟨by rw [HD.out]; rfl, HG.out.drewN _⟩
      · have hke : k = l.length := by omega
        subst hke
        have HD := hid (show decide (l = m) = true by
          rw [List.take_length] at ht
          simp only [decide_eq_true_eq]
          rw [ht, HL.out, List.take_length])
        have HG := hid hg
        clear hlt ht hg
        go_wp2
        go_ret
        exact ⟨by rw [HD.out]; rfl, HG.out⟩
  · have hb : ((l.length : Int) != m.length) = true := by simp; omega
    have HD := hid (show decide (l = m) = false by simp only [decide_eq_false_iff_not]; exact fun e => hlm (by rw [e]))
    clear hu hv hlm
    go_enter Try.func28, Try.ntmps28
    go_wp2
    go_ret
    exact ⟨by rw [HD.out]; rfl, Fr.refl _ _⟩
end Go.Proofs.Ytjhdnbediipibaa
