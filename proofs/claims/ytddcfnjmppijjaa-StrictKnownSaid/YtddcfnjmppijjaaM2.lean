import Derived.Test.YtddcfnjmppijjaaM1
/-! size, Few; digits, name. -/
namespace Go.Proofs.Ytddcfnjmppijjaa
open Go.RowKit

theorem nodesL_take (l : List RT) (i : Nat) (x : RT) (hx : l[i]? = some x) : nodesL (l.take (i + 1)) = nodesL (l.take i) + (1 + nodesL x.l) := by
  induction l generalizing i with
  | nil => simp at hx
  | cons y r ih =>
    cases i with
    | zero => simp at hx; subst hx; simp [nodesL, RT.nodes_eq]
    | succ i =>
      have := ih i (by simpa using hx)
      simp only [List.take_succ_cons, nodesL]
      omega

/-- what size answers -/
def SzPost (w : World) (l : List RT) (d : Nat) (e : Ending) (w' : World) : Prop :=
  ∃ s : Nat, e = .returned (Kv s) ∧ s ≤ 1000 + 41 * (13 - d) ∧ (s ≤ 40 → nodesL l = s) ∧ w = w'

set_option maxHeartbeats 2000000 in
theorem rsize_any {w : World} {D : Nat → Prop} {v : Value} {l : List RT} (h : RRow w D v l) : ∀ d : Nat, d ≤ 13 → Calls Try.prog 47 #[v, Kv d] w (SzPost w l d) := by
  refine RRow.ind (P := fun v l => ∀ d : Nat, d ≤ 13 → Calls Try.prog 47 #[v, Kv d] w (SzPost w l d)) ?_ ?_ h
  · intro ad cap hm d hd
    by_cases h12 : d ≤ 12
    · have HP := hid (show SzPost w [] d (.returned (Kv (0 : Nat))) w from ⟨0, rfl, by omega, fun _ => rfl, rfl⟩)
      go_enter Try.func47, Try.ntmps47
      go_wp2
      go_loop [5, 6] (fun a b => a = Kv (0 : Nat) ∧ b = Kv (0 : Nat)) (fun _ _ => 0)
      case atStart => exact ⟨rfl, rfl⟩
      case round =>
        obtain ⟨rfl, rfl⟩ := hrel
        go_wp2
        go_ret
        exact HP.out
    · have HP := hid (show SzPost w [] d (.returned (Kv (1000 : Nat))) w from ⟨1000, rfl, by omega, by omega, rfl⟩)
      go_enter Try.func47, Try.ntmps47
      go_wp2
      go_ret
      exact HP.out
  · intro l g o cap hn hm hD H d hd
    by_cases h12 : d ≤ 12
    · have HH := hid H
      clear H hD
      replace hm : cap ≤ 9223372036854775807 := hm
      go_enter Try.func47, Try.ntmps47
      go_wp2
      go_loop [5, 6] (fun a b => ∃ i n : Nat, i ≤ l.length ∧ b = .int .i64 i ∧ a = .int .i64 n ∧ n ≤ 1000 + 41 * (13 - d) ∧ (n ≤ 40 → nodesL (l.take i) = n)) (fun _ i => l.length - (intOf i).toNat)
      case atStart => exact ⟨0, 0, Nat.zero_le _, rfl, rfl, Nat.zero_le _, fun _ => rfl⟩
      case round =>
        obtain ⟨i, n, hi, rfl, rfl, hb, hnn⟩ := hrel
        have HNN := hid hnn
        have HB := hid hb
        clear hnn hb
        by_cases hlt : i < l.length
        · by_cases h40 : n ≤ 40
          · obtain ⟨x, hx⟩ := at_of_lt hlt
            obtain ⟨aa, ca, he, hc⟩ := HH.out i x hx
            have c2 := he.c2
            have HT := hid (nodesL_take l i x hx)
            have hcd := hc (d + 1) (by omega)
            rw [show ((d + 1 : Nat) : Int) = (d : Int) + 1 by omega] at hcd
            unfold SzPost at hcd
            clear he hc hx
            generalize x.l.length = xl at c2 hcd
            go_wp2_with (go_at_call 47; refine hcd.mono ?_; rintro e w' ⟨s, rfl, hs, hs2, rfl⟩)
            go_round
            case rel =>
              refine ⟨i + 1, n + 1 + s, by omega, by go_num, by go_num, by omega, fun h => ?_⟩
              rw [HT.out, HNN.out (by omega), hs2 (by omega)]
              omega
            case measure => simp [intOf]; omega
          · have HP := hid (show SzPost w l d (.returned (Kv (n : Nat))) w from ⟨n, rfl, HB.out, by omega, rfl⟩)
            go_wp2
            go_ret
            exact HP.out
        · obtain rfl : i = l.length := by omega
          have HP := hid (show SzPost w l d (.returned (Kv (n : Nat))) w from ⟨n, rfl, HB.out, fun h => by have := HNN.out h; rwa [List.take_length] at this, rfl⟩)
          go_wp2
          go_ret
          exact HP.out
    · have HP := hid (show SzPost w l d (.returned (Kv (1000 : Nat))) w from ⟨1000, rfl, by omega, by omega, rfl⟩)
      clear H
      go_enter Try.func47, Try.ntmps47
      go_wp2
      go_ret
      exact HP.out

set_option maxHeartbeats 1000000 in
/-- Few -/
theorem few_any {w : World} {D : Nat → Prop} {v : Value} {l : List RT} (h : RRow w D v l) : Calls Try.prog 17 #[v] w fun e w' => ∃ b : Bool, e = .returned (.bool b) ∧ (b = true → nodesL l ≤ 40) ∧ w = w' := by
  have hs := rsize_any h 0 (by omega)
  unfold SzPost at hs
  have hs' : Calls Try.prog 47 #[v, .int .i64 0] w _ := hs
  obtain ⟨ad, cap, rfl, -⟩ := h.shape
  clear h hs
  go_enter Try.func17, Try.ntmps17
  go_wp2_with (go_at_call 47; refine hs'.mono ?_; rintro e w' ⟨s, rfl, -, hs2, rfl⟩)
  go_ret
  exact ⟨_, rfl, fun h => by have h1 : ((s : Int) ≤ 40) := by simpa using h
                             have := hs2 (by omega)
                             omega, rfl⟩

theorem Try.u5 : Try.prog.underlying 5 = some (.int .u8) := by kernel_rfl
theorem conv_one (w : World) (c : Int) : (convert 103 9 (.slice (some ⟨w.heap.size, 0, none⟩) 1 1)).run Try.prog (w.alloc (.cells #[.int .u8 c] 5)) = .ok (.string ⟨#[UInt8.ofNat c.toNat]⟩) (w.alloc (.cells #[.int .u8 c] 5)) := by
  rw [run_convert_bytes_string _ 103 9 5 _ _ _ Try.u103 Try.u5 Try.u9]
  have hl : (loadCells ⟨w.heap.size, 0, none⟩ 1).run Try.prog (w.alloc (.cells #[.int .u8 c] 5)) = .ok (([c].map (Value.int .u8)).toArray) (w.alloc (.cells #[.int .u8 c] 5)) := by
    refine run_loadCells_list (P := Try.prog) (w := w.alloc (.cells #[.int .u8 c] 5)) ⟨w.heap.size, 0, none⟩ [.int .u8 c] (fun j v hj => ?_)
    match j, hj with
    | 0, hj =>
      simp at hj; subst hj
      exact cell_of_get (heap_alloc_new _ _) 0
  rw [run_bytesToString _ _ _ _ [c] hl]
  rfl

set_option maxHeartbeats 1000000 in
set_option maxRecDepth 100000 in
theorem digits_any (n : Nat) (hn : n ≤ 1000000) : ∀ w, Calls Try.prog 67 #[.int .i64 n] w fun e w' => e = .returned (St (dg n)) ∧ Grew w w' := by
  induction n using Nat.strongRecOn with
  | _ n ih =>
    intro w
    by_cases h : 10 ≤ n
    · have h1 : ∀ w, Calls Try.prog 67 #[.int .i64 ((n : Int) / 10)] w _ := fun w => by
        have := ih (n / 10) (by omega) (by omega) w
        rwa [show ((n / 10 : Nat) : Int) = (n : Int) / 10 by omega] at this
      have h2 : ∀ w, Calls Try.prog 67 #[.int .i64 ((n : Int) % 10)] w _ := fun w => by
        have := ih (n % 10) (by omega) (by omega) w
        rwa [show ((n % 10 : Nat) : Int) = (n : Int) % 10 by omega] at this
      have hl1 := dg_length 7 (n / 10) (by omega)
      have hl2 := dg_length 7 (n % 10) (by omega)
      rw [dg_big n h]
      generalize dg (n / 10) = d1 at *
      generalize dg (n % 10) = d2 at *
      have s1 : (⟨d1.toArray⟩ : ByteArray).size ≤ 8 := by simpa [ByteArray.size] using hl1
      have s2 : (⟨d2.toArray⟩ : ByteArray).size ≤ 8 := by simpa [ByteArray.size] using hl2
      have HE := hid (show (⟨d1.toArray⟩ : ByteArray) ++ ⟨d2.toArray⟩ = ⟨(d1 ++ d2).toArray⟩ by simp [ByteArray.mk_append_mk])
      have H1 := hid h1
      have H2 := hid h2
      clear hl1 hl2 ih h1 h2
      go_enter Try.func67, Try.ntmps67
      go_wp2_with (first | (go_at_call 67; refine (H1.out _).mono ?_; rintro e w1 ⟨rfl, hg1⟩; clear H1) | (go_at_call 67; refine (H2.out _).mono ?_; rintro e w2 ⟨rfl, hg2⟩; clear H2))
      go_ret
      exact ⟨congrArg (fun b => Ending.returned (.string b)) HE.out, hg1.trans hg2 (fun _ _ f => f)⟩
    · rw [dg_small n (by omega)]
      have hcv := conv_one w (48 + (n : Int))
      have e1 : (48 + (n : Int)).toNat = 48 + n := by omega
      rw [e1] at hcv
      clear e1
      have HG := hid (fun o => (Fr.refl (fun _ => False) w).alloc o)
      go_enter Try.func67, Try.ntmps67
      go_wp2
      go_ret
      exact ⟨congrArg (fun c => Ending.returned (St [c])) (show 48 + UInt8.ofNat n = UInt8.ofNat (48 + n) by simp), HG.out _⟩

/-- the maker's block holds N -/
def Mk (w : World) (mb : Nat) (N : Nat) : Prop := w.heap[mb]? = some (.cells #[.int .i64 N] 56 (0, 0))
theorem Mk.grew {w w' : World} {mb N : Nat} (h : Mk w mb N) (k : Grew w w') : Mk w' mb N := k.get h (fun f => f)

set_option maxHeartbeats 1000000 in
/-- name -/
theorem name_any {w : World} {mb N : Nat} (h : Mk w mb N) (hN : N ≤ 900000) :
    Calls Try.prog 48 #[.pointer (some ⟨mb, 0, none⟩)] w fun e w' => e = .returned (St (nam (N + 1))) ∧ Mk w' mb (N + 1) ∧ Fr (fun b => b = mb) w w' := by
  have c0 : w.cell? ⟨mb, 0, none⟩ = some (.int .i64 N) := by rw [cell_of_get h]; rfl
  have f0 := frozen_of_get h 0
  have hd := digits_any (N + 1) (by omega)
  rw [show ((N + 1 : Nat) : Int) = (N : Int) + 1 by omega] at hd
  have hl := dg_length 7 (N + 1) (by omega)
  have HE := hid (show (⟨#[118, 46]⟩ : ByteArray) ++ ⟨(dg (N + 1)).toArray⟩ = ⟨(nam (N + 1)).toArray⟩ by simp [nam, ByteArray.mk_append_mk])
  have HM := hid (show Mk (w.setCell ⟨mb, 0, none⟩ (.int .i64 ((N : Int) + 1))) mb (N + 1) by
    unfold Mk at *
    simp [World.setCell, Array.getElem?_modify, h])
  have HF := hid ((Fr.refl (fun b => b = mb) w).setCell (p := ⟨mb, 0, none⟩) (fun _ => rfl) (.int .i64 ((N : Int) + 1)))
  generalize dg (N + 1) = d at *
  clear h
  go_enter Try.func48, Try.ntmps48
  go_wp2_with (go_at_call 67; refine (hd _).mono ?_; rintro e w1 ⟨rfl, hg1⟩)
  go_ret
  exact ⟨congrArg (fun b => Ending.returned (.string b)) HE.out, HM.out.grew hg1, HF.out.trans hg1 (fun _ _ f => f.elim)⟩
end Go.Proofs.Ytddcfnjmppijjaa
