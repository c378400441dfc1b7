import Derived.Test.YtddcfnjmppijjaaN1
import Derived.LoopTactic
/-! big.Right: whether a text is a number's. -/
namespace Go.Proofs.Ytddcfnjmppijjaa
open Go.RowKit

theorem trim_len (s p : Str) : (Lib.trimPrefix s p).length ≤ s.length := by
  unfold Lib.trimPrefix
  split <;> simp

theorem next_low {d : Str} {pos : Nat} {c : UInt8} (h : d[pos]? = some c) (hc : c.toNat < 128) (w : World) (ty : TypeId) :
    (Instr.next (.pointer (some ⟨w.heap.size, 0, none⟩)) true ty).run Try.prog (w.iter ⟨d.toArray⟩ pos) = .ok (.tuple #[.bool true, .int .i64 pos, .int .i32 (c.toNat : Int)]) (w.iter ⟨d.toArray⟩ (pos + 1)) := by
  obtain ⟨hi, -⟩ := List.getElem?_eq_some_iff.1 h
  have hp : pos < (⟨d.toArray⟩ : ByteArray).size := by rw [size_St]; exact hi
  have e := get_of d pos c h hp
  have := run_next_ascii (P := Try.prog) w ⟨d.toArray⟩ pos ty hp (by rw [e]; exact hc)
  rwa [e] at this
theorem next_high {d : Str} {pos : Nat} {c : UInt8} (h : d[pos]? = some c) (hc : ¬ c.toNat < 128) (w : World) :
    ∃ rr k : Nat, 128 ≤ rr ∧ rr ≤ 2147483647 ∧ ∀ ty, (Instr.next (.pointer (some ⟨w.heap.size, 0, none⟩)) true ty).run Try.prog (w.iter ⟨d.toArray⟩ pos) = .ok (.tuple #[.bool true, .int .i64 pos, .int .i32 (rr : Int)]) (w.iter ⟨d.toArray⟩ k) := by
  obtain ⟨hi, -⟩ := List.getElem?_eq_some_iff.1 h
  have hp : pos < (⟨d.toArray⟩ : ByteArray).size := by rw [size_St]; exact hi
  have e := get_of d pos c h hp
  exact ⟨_, _, (decode_high ⟨d.toArray⟩ pos hp (by rw [e]; omega)).1, decode_le _ _, fun ty => run_next_any w _ pos ty hp⟩
theorem next_end {d : Str} (w : World) (ty : TypeId) :
    (Instr.next (.pointer (some ⟨w.heap.size, 0, none⟩)) true ty).run Try.prog (w.iter ⟨d.toArray⟩ d.length) = .ok (.tuple #[.bool false]) (w.iter ⟨d.toArray⟩ d.length) :=
  run_next_end w _ _ ty (by rw [size_St]; omega)

theorem Grew.iter (w : World) (s : ByteArray) (pos : Nat) : Grew w (w.iter s pos) := (Fr.refl _ _).alloc _

set_option maxHeartbeats 2000000 in
theorem bignum_any (w : World) (s : Str) (hs : s.length ≤ 1000000) : Calls Try.prog 82 #[St s] w fun e w' => e = .returned (.bool (numOk s)) ∧ Grew w w' := by
  rw [numOk_cut]
  have hcut : Calls Try.prog 97 #[St s, .string ⟨#[45]⟩] w fun e w' => e = .returned (.tuple #[St (Lib.trimPrefix s [45]), .bool (Lib.hasPrefix s [45])]) ∧ w' = w := Try.strings_CutPrefix ⟨s.toArray⟩ ⟨#[45]⟩ w
  have hdsl : (Lib.trimPrefix s [45]).length ≤ 1000000 := Nat.le_trans (trim_len s [45]) hs
  generalize Lib.trimPrefix s [45] = d at hcut hdsl
  generalize Lib.hasPrefix s [45] = b at hcut
  have hds := size_St d
  have hfr := hid (Fr.refl (fun _ => False) w)
  by_cases hd0 : d = []
  · have hb := hid (rest_nil (b || decide (1 < d.length)))
    subst hd0
    go_enter Try.func82, Try.ntmps82
    go_wp2_with (go_at_call 97; refine hcut.mono ?_; rintro e w' ⟨rfl, rfl⟩)
    go_ret
    exact ⟨(congrArg (fun b => Ending.returned (.bool b)) hb.out).symm, hfr.out⟩
  obtain ⟨c1, hc1⟩ : ∃ c1, d[0]? = some c1 := at_of_lt (by cases d <;> simp_all)
  have hj : ∀ w k, (Instr.index 9 (.string ⟨d.toArray⟩) (.int k 0)).run Try.prog w = .ok (.int .u8 (c1.toNat : Int)) w := fun w k => idx_at (i := 0) hc1 w k
  have hdl : 1 ≤ d.length := by cases d <;> simp_all
  have HB : Hid ((200 < d.length ∨ ((c1.toNat : Int) = 48 ∧ (b = true ∨ 1 < d.length))) → restOk d (b || decide (1 < d.length)) = false) := hid (fun h => h.elim rest_long fun h => rest_zero hc1 h.1 (by rcases h.2 with h | h <;> simp [h]))
  have HK : Hid ((d.length ≤ 200 ∧ (¬ (c1.toNat : Int) = 48 ∨ (b = false ∧ ¬ 1 < d.length))) → (∀ x ∈ d, isD x) → restOk d (b || decide (1 < d.length)) = true) := hid (fun h hd => rest_good hc1 h.1 (h.2.imp id fun h => by simp [h]) hd)
  have HNN : Hid (∀ (pos : Nat) (c : UInt8), d[pos]? = some c → ¬ isD c → restOk d (b || decide (1 < d.length)) = false) := hid (fun pos c h hc => rest_bad h hc)
  have hne : d.isEmpty = false := by cases d <;> simp_all
  generalize hrr : restOk d (b || decide (1 < d.length)) = rr at HB HK HNN
  clear hc1 hrr
  cases b
  all_goals
    go_enter Try.func82, Try.ntmps82
    go_wp2_with (go_at_call 97; refine hcut.mono ?_; rintro e w' ⟨rfl, rfl⟩)
    all_goals first | (go_ret; exact ⟨(congrArg (fun b => Ending.returned (.bool b)) (HB.out (by simp only [hne] at *; simp; omega))).symm, hfr.out⟩) | skip
    all_goals
      have HOK := hid (HK.out (by simp only [hne] at *; simp; omega))
      go_loopw [6] (fun _ wr => ∃ pos : Nat, pos ≤ d.length ∧ wr = w'.iter ⟨d.toArray⟩ pos ∧ ∀ x ∈ d.take pos, isD x) (fun _ wr => d.length - wr.iterPos w'.heap.size)
      case atStart => exact ⟨0, Nat.zero_le _, rfl, by simp⟩
      case round =>
        obtain ⟨pos, hi, rfl, hp⟩ := hrel
        have HP := hid hp
        clear hp
        by_cases hlt : pos < d.length
        · obtain ⟨c, hc⟩ := at_of_lt hlt
          by_cases h128 : c.toNat < 128
          · have hnx := fun ty => next_low hc h128 w' ty
            by_cases hlo : (c.toNat : Int) < 48
            · have hbad := hid (HNN.out pos c hc (fun h => by unfold isD at h; omega))
              clear hc
              go_wp2
              go_ret
              exact ⟨(congrArg (fun b => Ending.returned (.bool b)) hbad.out).symm, Grew.iter _ _ _⟩
            · by_cases hhi : (57 : Int) < c.toNat
              · have hbad := hid (HNN.out pos c hc (fun h => by unfold isD at h; omega))
                clear hc
                go_wp2
                go_ret
                exact ⟨(congrArg (fun b => Ending.returned (.bool b)) hbad.out).symm, Grew.iter _ _ _⟩
              · have HN := hid (digit_take d pos c hc ⟨by omega, by omega⟩ HP.out)
                clear hc HP
                go_wp2
                go_roundw
                case rel => exact ⟨pos + 1, by omega, rfl, HN.out⟩
                case measure => simp; omega
          · obtain ⟨rr', k, h1, h2, hnx⟩ := next_high hc h128 w'
            have hbad := hid (HNN.out pos c hc (fun h => by unfold isD at h; omega))
            have h3 : ¬ (rr' : Int) < 48 := by omega
            have h4 : (57 : Int) < (rr' : Int) := by omega
            clear hc
            go_wp2
            go_ret
            exact ⟨(congrArg (fun b => Ending.returned (.bool b)) hbad.out).symm, Grew.iter _ _ _⟩
        · obtain rfl : pos = d.length := by omega
          have hnx := fun ty => next_end (d := d) w' ty
          go_wp2
          go_ret
          exact ⟨(congrArg (fun b => Ending.returned (.bool b)) (HOK.out (by have := HP.out; rwa [List.take_length] at this))).symm, Grew.iter _ _ _⟩
end Go.Proofs.Ytddcfnjmppijjaa
