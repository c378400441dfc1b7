import Derived.Test.YtddcfnjmppijjaaM1
import Derived.Test.YtddcfnjmppijjaaRows
import Derived.ProofKit
import Derived.OpenShut
import Derived.ShutString
import Derived.ChangeOld
import Derived.Below
import Derived.HandedShaped
import Derived.Carry
import Derived.Deep.Slices
import Derived.Deep.Strs
/-! A law's argument of raw terms: opened, and handed back. -/
namespace Go.Proofs.Ytddcfnjmppijjaa
open Go.RowKit Go.WideShapes Go.ChangeShapes

theorem und22 : Try.prog.underlying 22 = some (.slice 59) := by kernel_rfl
theorem und3 : Try.prog.underlying 3 = some (.int .i64) := by kernel_rfl
theorem und59 : ∃ f0 f1 f2 : Field, Try.prog.underlying 59 = some (.struct #[f0, f1, f2]) ∧ f0.type = 3 ∧ f0.offset = 0 ∧ f1.type = 3 ∧ f1.offset = 1 ∧ f2.type = 22 ∧ f2.offset = 2 :=
  ⟨_, _, _, Try.underlying59, rfl, rfl, rfl, rfl, rfl, rfl⟩
theorem co59 : Try.prog.cellsOf 59 = 3 := by kernel_rfl
theorem co22 : Try.prog.cellsOf 22 = 1 := by kernel_rfl
theorem co3 : Try.prog.cellsOf 3 = 1 := by kernel_rfl

theorem list3 {α : Type} {cs : List α} (h : cs.length = 3) : ∃ a b c, cs = [a, b, c] := by
  match cs, h with
  | [a, b, c], _ => exact ⟨a, b, c, rfl⟩
instance : Inhabited RT := ⟨.mk 0 0 []⟩

theorem open_raws {H : Type} {enc : TypeId × Value → H} {W : World} {spare : Nat → Bool} (n : Nat) : ∀ (fuel : Nat) (x : DataW H × List MemPlace) (v : Value), SizeOf.sizeOf x.1 ≤ n → DataW.trod enc Try.prog W 0 spare true fuel 22 [v] = some x → ∃ l, RRow W (fun _ => False) v l := by
  induction n with
  | zero => intro fuel x v hs h; cases x with | mk d ps => cases d <;> simp at hs
  | succ n ih =>
    intro fuel x v hs h
    rcases Go.Deep.open_slice und22 h with ⟨h0, rfl⟩ | ⟨a, len, cap, m, k, D, Pl, h0, -, hl, hm, hmm, rfl, hx⟩
    · obtain rfl : v = .slice none 0 0 := by simpa using h0
      exact ⟨[], .nil none 0 (by simp [maxLen])⟩
    · obtain rfl : v = .slice (some a) len cap := by simpa using h0
      by_cases h00 : len = 0
      · subst h00
        exact ⟨[], .nil _ cap hm⟩
      · have hlm : len ≤ m := by rw [hmm]; split <;> omega
        have hel : ∀ i, i < len → ∃ (kk nn : Int) (va : Value) (l : List RT), W.cell? (a.add (i * 3)) = some (Kv kk) ∧ W.cell? ((a.add (i * 3)).add 1) = some (Kv nn) ∧ W.cell? ((a.add (i * 3)).add 2) = some va ∧ RRow W (fun _ => False) va l := by
          intro i hi
          obtain ⟨cs, hc, ht⟩ := hx i (by omega)
          rw [co59] at hc
          obtain ⟨-, hcl, hcc⟩ := World.cells?_some hc
          obtain ⟨f0, f1, f2, hu, e1, e2, e3, e4, e5, e6⟩ := und59
          obtain ⟨y0, y1, y2, k2, hD, -, t0, t1, t2⟩ := Go.Deep.trod_struct3 hu ht
          obtain ⟨c0, c1, c2, rfl⟩ := list3 hcl
          rw [e1, e2, co3] at t0
          rw [e3, e4, co3] at t1
          rw [e5, e6, co22] at t2
          obtain ⟨kk, ek, -, -⟩ := DataW.trod_int und3 t0
          obtain ⟨nn, en, -, -⟩ := DataW.trod_int und3 t1
          have q0 : c0 = Kv kk := by simpa using ek
          have q1 : c1 = Kv nn := by simpa using en
          subst q0 q1
          have hD' : D i = .agg [y0.1, y1.1, y2.1] := congrArg Prod.fst hD
          have hlt : SizeOf.sizeOf y2.1 ≤ n := by
            have h1 : D i ∈ (List.range len).map D := List.mem_map.2 ⟨i, List.mem_range.2 hi, rfl⟩
            have h2 := List.sizeOf_lt_of_mem h1
            rw [hD'] at h2
            simp at h2 hs
            omega
          obtain ⟨l, hl⟩ := ih _ y2 c2 hlt (by simpa using t2)
          exact ⟨kk, nn, c2, l, by simpa [Addr.add] using hcc 0 (by omega), by simpa using hcc 1 (by omega), by simpa using hcc 2 (by omega), hl⟩
        obtain ⟨kk0, nn0, va0, l0, hc0, -⟩ := hel 0 (by omega)
        have hsp := World.cell?_spot hc0
        obtain ⟨g, o, sp⟩ := a
        have : sp = none := by simpa [Addr.add] using hsp
        subst this
        obtain ⟨F, hF⟩ := Go.Deep.choose_lt (α := RT × Value) (n := len) (p := fun i (q : RT × Value) => W.cell? ⟨g, o + i * 3, none⟩ = some (Kv q.1.k) ∧ W.cell? ⟨g, o + i * 3 + 1, none⟩ = some (Kv q.1.n) ∧ W.cell? ⟨g, o + i * 3 + 2, none⟩ = some q.2 ∧ RRow W (fun _ => False) q.2 q.1.l) (fun i hi => by
          obtain ⟨kk, nn, va, l, h0, h1, h2, h3⟩ := hel i hi
          simp only [add_plain] at h0 h1 h2
          exact ⟨(.mk kk nn l, va), h0, h1, h2, h3⟩)
        refine ⟨(List.range len).map fun i => (F i).1, ?_⟩
        have hlen : ((List.range len).map fun i => (F i).1).length = len := by simp
        have := RRow.mk (w := W) (D := fun _ => False) ((List.range len).map fun i => (F i).1) g o cap (fun i => (F i).2) (by rw [hlen]; exact hl) hm (fun f => f)
          (fun i hi => by simp at hi; simpa using (hF i hi).1) (fun i hi => by simp at hi; simpa using (hF i hi).2.1) (fun i hi => (hF i (by simpa using hi)).2.2.1) (fun i hi => by simp at hi; simpa using (hF i hi).2.2.2)
        rwa [hlen] at this

set_option maxRecDepth 100000 in
theorem open_raw_arg {H : Type} {enc : TypeId × Value → H} {W : World} {spare : Nat → Bool} {base : Nat} {r : Reach} {v : Value} {d : DataW H} {ps : List MemPlace} (hval : Value.okWide Try.prog W r base 22 v) (h : DataW.Trod enc Try.prog W 0 spare true 22 v d ps) :
    ∃ l, RRow W (fun _ => False) v l := by
  obtain ⟨a, len, cap, rfl⟩ := okWide_slice (P := Try.prog) (w := W) (r := r) (base := base) und22 hval
  obtain ⟨fuel, hf⟩ := h
  exact open_raws _ fuel _ _ (Nat.le_refl _) hf

set_option maxRecDepth 100000 in
theorem back_raw_arg {H : Type} {enc : TypeId × Value → H} {W W' : World} {v : Value} {d : DataW H} {ps : List MemPlace} (h : DataW.Trod enc Try.prog W 0 (fun _ => true) true 22 v d ps) (hg : Grew W W') :
    DataW.Trod enc Try.prog W' 0 (fun b => decide (b < W.heap.size)) true 22 v d ps := by
  have hlt : ∀ x ∈ ps, x.block < W.heap.size := by
    obtain ⟨fuel, hf⟩ := h
    exact DataW.trod_lt _ _ _ _ hf
  exact Below.trod (by kernel_rfl) (by kernel_rfl) (of_decide_eq_true (by kernel_rfl)) h (Fr.below hg) hlt
end Go.Proofs.Ytddcfnjmppijjaa
