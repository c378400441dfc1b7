import Derived.Test.YtddcfnjmppijjaaA8
import Derived.Test.YtddcfnjmppijjaaS2
import Derived.Laws.RangeAny
/-! thunkref1.Right, big.Right: whether a text is a number's. -/
namespace Go.Proofs.Ytddcfnjmppijjaa
open Go.RowKit

/-- a digit -/
abbrev isD (c : UInt8) : Prop := 48 ≤ c.toNat ∧ c.toNat ≤ 57
/-- digits, no more than may be; no 0 ahead where z -/
def restOk (d : Str) (z : Bool) : Bool := decide (d ≠ [] ∧ d.length ≤ 200 ∧ ¬ (d.head? = some 48 ∧ z = true) ∧ ∀ c ∈ d, isD c)
/-- a number's text -/
def numOk (s : Str) : Bool := if s.head? = some 45 then restOk s.tail true else restOk s (decide (1 < s.length))

theorem numOk_cut (s : Str) : numOk s = restOk (Lib.trimPrefix s [45]) (Lib.hasPrefix s [45] || decide (1 < (Lib.trimPrefix s [45]).length)) := by
  cases s with
  | nil => simp [numOk, Lib.trimPrefix, Lib.hasPrefix]
  | cons c r =>
    by_cases hc : c = 45
    · subst hc; simp [numOk, Lib.trimPrefix, Lib.hasPrefix, List.isPrefixOf]
    · have : ¬ (45 : UInt8) = c := fun e => hc e.symm
      have h2 : ((45 : UInt8) == c) = false := by simp [this]
      simp [numOk, Lib.trimPrefix, Lib.hasPrefix, List.isPrefixOf, hc, h2]

theorem get_of (d : Str) (i : Nat) (c : UInt8) (h : d[i]? = some c) (h' : i < (⟨d.toArray⟩ : ByteArray).size) : (⟨d.toArray⟩ : ByteArray)[i]'h' = c := by
  obtain ⟨hi, rfl⟩ := List.getElem?_eq_some_iff.1 h
  rfl

theorem idx_at {d : Str} {i : Nat} {c : UInt8} (h : d[i]? = some c) (w : World) (k : IntKind) : (Instr.index 9 (.string ⟨d.toArray⟩) (.int k (i : Int))).run Try.prog w = .ok (.int .u8 (c.toNat : Int)) w := by
  obtain ⟨hi, -⟩ := List.getElem?_eq_some_iff.1 h
  have hs : (⟨d.toArray⟩ : ByteArray).size = d.length := by simp [ByteArray.size]
  rw [run_index_string w 9 _ k i Try.u9, dif_pos ⟨by omega, by rw [hs]; omega⟩]
  have := get_of d i c h (by rw [hs]; omega)
  simp only [Int.toNat_natCast, this]

theorem digit_take (d : Str) (i : Nat) (c : UInt8) (h : d[i]? = some c) (hc : isD c) (hp : ∀ x ∈ d.take i, isD x) : ∀ x ∈ d.take (i + 1), isD x := by
  obtain ⟨hi, rfl⟩ := List.getElem?_eq_some_iff.1 h
  intro x hx
  rw [List.take_add_one, h] at hx
  rcases List.mem_append.1 hx with hx | hx
  · exact hp x hx
  · simp at hx; subst hx; exact hc

theorem rest_bad {d : Str} {z : Bool} {i : Nat} {c : UInt8} (h : d[i]? = some c) (hc : ¬ isD c) : restOk d z = false :=
  decide_eq_false fun ⟨_, _, _, h4⟩ => hc (h4 c (List.mem_of_getElem? h))
theorem rest_nil (z : Bool) : restOk [] z = false := by simp [restOk]
theorem rest_long {d : Str} {z : Bool} (h : 200 < d.length) : restOk d z = false := decide_eq_false fun ⟨_, h2, _, _⟩ => by omega
theorem rest_zero {d : Str} {z : Bool} {c : UInt8} (h : d[0]? = some c) (hc : (c.toNat : Int) = 48) (hz : z = true) : restOk d z = false :=
  decide_eq_false fun ⟨_, _, h3, _⟩ => h3 ⟨by rw [List.head?_eq_getElem?, h, show c = 48 from UInt8.toNat_inj.1 (show c.toNat = 48 by omega)], hz⟩
theorem rest_good {d : Str} {z : Bool} {c : UInt8} (h : d[0]? = some c) (h2 : d.length ≤ 200) (hc : ¬ (c.toNat : Int) = 48 ∨ z = false) (hd : ∀ x ∈ d, isD x) : restOk d z = true := by
  refine decide_eq_true ⟨by rintro rfl; simp at h, h2, fun ⟨h3, h4⟩ => ?_, hd⟩
  rw [List.head?_eq_getElem?, h] at h3
  rcases hc with hc | hc
  · exact hc (by simp at h3; subst h3; rfl)
  · rw [hc] at h4; cases h4

/-! ref -/
theorem size_St (d : Str) : (⟨d.toArray⟩ : ByteArray).size = d.length := by simp [ByteArray.size]
theorem tail_run (s : Str) (w : World) (h : s ≠ []) : (Instr.slice 9 (.string ⟨s.toArray⟩) (some (.int .i64 1)) none none).run Try.prog w = .ok (.string ⟨s.tail.toArray⟩) w := by
  have h1 : 1 ≤ s.length := by cases s <;> simp_all
  rw [run_slice_string_l (ht := Try.u9) (kl := .i64) (l := 1) (h0 := by omega) (h1 := by rw [size_St]; omega)]
  have : (⟨s.toArray⟩ : ByteArray).extract (Int.toNat 1) (⟨s.toArray⟩ : ByteArray).size = ⟨s.tail.toArray⟩ := by
    apply ByteArray.ext
    rw [ByteArray.data_extract]
    simp [size_St]
    cases s <;> simp_all
  rw [this]

set_option maxHeartbeats 2000000 in
theorem refnum_any (w : World) (s : Str) (hs : s.length ≤ 1000000) : Calls Try.prog 84 #[St s] w fun e w' => e = .returned (.bool (numOk s)) ∧ w = w' := by
  obtain ⟨d, hd⟩ : ∃ d : Str, d = if s.head? = some 45 then s.tail else s := ⟨_, rfl⟩
  obtain ⟨z, hz⟩ : ∃ z : Bool, z = decide (1 < s.length) := ⟨_, rfl⟩
  have hn : numOk s = restOk d z := by
    subst hd hz
    unfold numOk
    cases s with
    | nil => simp
    | cons c r =>
      simp only [List.head?_cons, List.tail_cons, Option.some.injEq]
      split
      · cases r <;> simp [restOk]
      · rfl
  rw [hn]
  have HZ := hid hz
  clear hz hn
  by_cases h0 : s = []
  · subst h0
    have : restOk d z = false := by subst hd; exact rest_nil z
    rw [this]
    clear hd this
    go_enter Try.func84, Try.ntmps84
    go_wp2
    go_ret
    exact ⟨rfl, rfl⟩
  · obtain ⟨c, hc⟩ : ∃ c, s[0]? = some c := at_of_lt (by cases s <;> simp_all)
    have hr := fun w => tail_run s w h0
    have hi : ∀ w k, (Instr.index 9 (.string ⟨s.toArray⟩) (.int k 0)).run Try.prog w = .ok (.int .u8 (c.toNat : Int)) w := fun w k => idx_at (i := 0) hc w k
    have hsz := size_St s
    have hl1 : 1 ≤ s.length := by cases s <;> simp_all
    by_cases h45 : (c.toNat : Int) = 45
    · have hds : d = s.tail := by
        rw [hd, if_pos]
        rw [List.head?_eq_getElem?, hc, show c = 45 from UInt8.toNat_inj.1 (show c.toNat = 45 by omega)]
      rw [← hds] at hr
      have hdsl : d.length ≤ s.length := by rw [hds]; simp
      clear hd hds hc
      have hds := size_St d
      by_cases hd0 : d = []
      · have hb := hid (rest_nil z)
        subst hd0
        go_enter Try.func84, Try.ntmps84
        go_wp2
        go_ret
        exact ⟨(congrArg (fun b => Ending.returned (.bool b)) hb.out).symm, rfl⟩
      obtain ⟨c1, hc1⟩ : ∃ c1, d[0]? = some c1 := at_of_lt (by cases d <;> simp_all)
      have hj : ∀ w k, (Instr.index 9 (.string ⟨d.toArray⟩) (.int k 0)).run Try.prog w = .ok (.int .u8 (c1.toNat : Int)) w := fun w k => idx_at (i := 0) hc1 w k
      have hdl : 1 ≤ d.length := by cases d <;> simp_all
      have HB : Hid ((200 < d.length ∨ ((c1.toNat : Int) = 48 ∧ 1 < s.length)) → restOk d z = false) := hid (fun h => h.elim rest_long fun h => rest_zero hc1 h.1 (by rw [HZ.out]; exact decide_eq_true h.2))
      have HK : Hid ((d.length ≤ 200 ∧ (¬ (c1.toNat : Int) = 48 ∨ ¬ 1 < s.length)) → (∀ x ∈ d, isD x) → restOk d z = true) := hid (fun h hd => rest_good hc1 h.1 (h.2.imp id fun h => by rw [HZ.out]; exact decide_eq_false h) hd)
      have hne : ((d.length : Int) == 0) = false := by simp; omega
      clear hc1
      go_enter Try.func84, Try.ntmps84
      go_wp2
      all_goals first | (go_ret; exact ⟨(congrArg (fun b => Ending.returned (.bool b)) (HB.out (by simp only [hne] at *; omega))).symm, rfl⟩) | skip
      all_goals
        have HOK := hid (HK.out (by simp only [hne] at *; omega))
        go_loop [4] (fun b => ∃ i : Nat, i ≤ d.length ∧ b = .int .i64 i ∧ ∀ x ∈ d.take i, isD x) (fun i => d.length - (intOf i).toNat)
        case atStart => exact ⟨0, Nat.zero_le _, rfl, by simp⟩
        case round =>
          obtain ⟨i, hi, rfl, hp⟩ := hrel
          have HP := hid hp
          clear hp
          by_cases hlt : i < d.length
          · obtain ⟨ci, hci⟩ := at_of_lt hlt
            have hx := fun w k => idx_at hci w k
            by_cases hlo : (ci.toNat : Int) < 48
            · have hbad := hid (rest_bad (z := z) hci (fun h => by unfold isD at h; omega))
              clear hci
              go_wp2
              go_ret
              exact ⟨(congrArg (fun b => Ending.returned (.bool b)) hbad.out).symm, rfl⟩
            · by_cases hhi : (57 : Int) < ci.toNat
              · have hbad := hid (rest_bad (z := z) hci (fun h => by unfold isD at h; omega))
                clear hci
                go_wp2
                go_ret
                exact ⟨(congrArg (fun b => Ending.returned (.bool b)) hbad.out).symm, rfl⟩
              · have HN := hid (digit_take d i ci hci ⟨by omega, by omega⟩ HP.out)
                clear hci HP
                go_wp2
                go_round
                case rel => exact ⟨i + 1, by omega, by go_num, HN.out⟩
                case measure => simp [intOf]; omega
          · obtain rfl : i = d.length := by omega
            go_wp2
            go_ret
            exact ⟨(congrArg (fun b => Ending.returned (.bool b)) (HOK.out (by have := HP.out; rwa [List.take_length] at this))).symm, rfl⟩
    · have hds : d = s := by
        rw [hd, if_neg]
        rw [List.head?_eq_getElem?, hc]
        intro h
        simp at h
        subst h
        exact h45 rfl
      clear hd hr hi hsz
      have hdsl : s.length ≤ 1000000 := hs
      subst hds
      have hds := size_St d
      by_cases hd0 : d = []
      · exact absurd hd0 h0
      have hc1 := hc
      clear hc
      have hj : ∀ w k, (Instr.index 9 (.string ⟨d.toArray⟩) (.int k 0)).run Try.prog w = .ok (.int .u8 (c.toNat : Int)) w := fun w k => idx_at (i := 0) hc1 w k
      have hdl : 1 ≤ d.length := by cases d <;> simp_all
      have HB : Hid ((200 < d.length ∨ ((c.toNat : Int) = 48 ∧ 1 < d.length)) → restOk d z = false) := hid (fun h => h.elim rest_long fun h => rest_zero hc1 h.1 (by rw [HZ.out]; exact decide_eq_true h.2))
      have HK : Hid ((d.length ≤ 200 ∧ (¬ (c.toNat : Int) = 48 ∨ ¬ 1 < d.length)) → (∀ x ∈ d, isD x) → restOk d z = true) := hid (fun h hd => rest_good hc1 h.1 (h.2.imp id fun h => by rw [HZ.out]; exact decide_eq_false h) hd)
      have hne : ((d.length : Int) == 0) = false := by simp; omega
      clear hc1
      go_enter Try.func84, Try.ntmps84
      go_wp2
      all_goals first | (go_ret; exact ⟨(congrArg (fun b => Ending.returned (.bool b)) (HB.out (by simp only [hne] at *; omega))).symm, rfl⟩) | skip
      all_goals
        have HOK := hid (HK.out (by simp only [hne] at *; omega))
        go_loop [4] (fun b => ∃ i : Nat, i ≤ d.length ∧ b = .int .i64 i ∧ ∀ x ∈ d.take i, isD x) (fun i => d.length - (intOf i).toNat)
        case atStart => exact ⟨0, Nat.zero_le _, rfl, by simp⟩
        case round =>
          obtain ⟨i, hi, rfl, hp⟩ := hrel
          have HP := hid hp
          clear hp
          by_cases hlt : i < d.length
          · obtain ⟨ci, hci⟩ := at_of_lt hlt
            have hx := fun w k => idx_at hci w k
            by_cases hlo : (ci.toNat : Int) < 48
            · have hbad := hid (rest_bad (z := z) hci (fun h => by unfold isD at h; omega))
              clear hci
              go_wp2
              go_ret
              exact ⟨(congrArg (fun b => Ending.returned (.bool b)) hbad.out).symm, rfl⟩
            · by_cases hhi : (57 : Int) < ci.toNat
              · have hbad := hid (rest_bad (z := z) hci (fun h => by unfold isD at h; omega))
                clear hci
                go_wp2
                go_ret
                exact ⟨(congrArg (fun b => Ending.returned (.bool b)) hbad.out).symm, rfl⟩
              · have HN := hid (digit_take d i ci hci ⟨by omega, by omega⟩ HP.out)
                clear hci HP
                go_wp2
                go_round
                case rel => exact ⟨i + 1, by omega, by go_num, HN.out⟩
                case measure => simp [intOf]; omega
          · obtain rfl : i = d.length := by omega
            go_wp2
            go_ret
            exact ⟨(congrArg (fun b => Ending.returned (.bool b)) (HOK.out (by have := HP.out; rwa [List.take_length] at this))).symm, rfl⟩
end Go.Proofs.Ytddcfnjmppijjaa
