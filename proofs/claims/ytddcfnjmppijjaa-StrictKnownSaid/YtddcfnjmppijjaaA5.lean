import Derived.Test.YtddcfnjmppijjaaA4
/-! The chapter's example: known. -/
namespace Go.Proofs.Ytddcfnjmppijjaa
open Go.RowKit

theorem Pen.alloc {B b : Nat} {l : Str} {w : World} (h : Pen B b l w) (o : Obj) : Pen B b l (w.alloc o) := h.elim (fun k => .inl (k.alloc o)) (fun k => .inr (k.alloc o))
theorem below_grew {w w' : World} (h : Below w.heap.size w w') : Grew w w' := ⟨h.os, h.tape, h.output, h.size, fun k hk _ => h.block k hk⟩
theorem Below.of_le {B : Nat} {w w' : World} (h : Below B w w') {C : Nat} (hC : C ≤ B) : Below C w w' := h.mono hC

/-- the empty list's term -/
abbrev nilV : Value := .agg #[Kv 3, .string ⟨#[]⟩, .slice none 0 0, .slice none 0 0]

set_option maxHeartbeats 1000000 in
theorem write_nil {B b : Nat} {l : Str} {w : World} (h : Pen B b l w) (hl : l.length ≤ 1000000) (hB : B ≤ w.heap.size) :
    Calls Try.prog 63 #[.pointer (some ⟨b, 0, none⟩), nilV] w fun e w' => e = .returned (.tuple #[]) ∧ Pen B b (l ++ [40, 41]) w' ∧ Below B w w' := by
  have hw := fun o => write_pen (s := ⟨#[40, 41]⟩) (h.alloc o) (by show l.length + 2 ≤ _; omega) (by simp; omega)
  have hal := fun o => (Below.refl B w).alloc hB o
  have HB := hid hal
  clear hal
  go_enter Try.func63, Try.ntmps63
  go_wp2_with (go_at_call 89; refine (hw _).mono ?_; rintro e w' ⟨rfl, hp, hb, -⟩)
  go_end0
  exact ⟨rfl, hp, (HB.out _).trans hb⟩

theorem pen_new {w : World} {B b : Nat} (hb : b = w.heap.size) (hB : B ≤ b) : Pen B b [] (w.alloc (.cells #[.pointer none, .slice none 0 0] 107)) := by
  subst hb
  exact .inl ⟨hB, .slice none 0 0, heap_alloc_new _ _, World.ownsRowF_nil _ _ _ _, by simp [Value.ownBlock]⟩

set_option maxHeartbeats 1000000 in
set_option maxRecDepth 100000 in
theorem text_nil (w : World) : Calls Try.prog 42 #[nilV] w fun e w' => e = .returned (St [40, 41]) ∧ Grew w w' := by
  have hp := fun o : Obj => pen_new (w := w.alloc o) (b := w.heap.size + 1) (B := w.heap.size) (by simp) (by omega)
  have hw := fun o => write_nil (hp o) (by simp) (by simp; omega)
  have hs := fun (w' : World) (b : Nat) (h : Pen w.heap.size b ([] ++ [40, 41]) w') => string_pen h (by simp)
  have HS := hid hs
  have hal := fun o o' => ((Below.refl w.heap.size w).alloc (Nat.le_refl _) o).alloc (by simp) o'
  have HB := hid hal
  clear hs hp hal
  go_enter Try.func42, Try.ntmps42
  go_wp2_with (first | (go_at_call 63; refine (hw _).mono ?_; rintro e w' ⟨rfl, hp, hb⟩; clear hw) | (go_at_call 64; refine (HS.out _ _ hp).mono ?_; rintro e w2 ⟨rfl, hb2⟩))
  go_ret
  exact ⟨rfl, below_grew (((HB.out _ _).trans hb).trans hb2)⟩

/-- what core.alone answers -/
def aloneB (t : Str) (n m : Nat) (b : Bool) (p : Int) : Bool := ((!t.isEmpty) == b && (n == 0)) && ((m : Int) == p)

set_option maxHeartbeats 1000000 in
theorem alone_any (w : World) (k : Int) (t : Str) (an : Option Addr) (n cn : Nat) (aa : Option Addr) (m ca : Nat) (b : Bool) (p : Int) :
    Calls Try.prog 81 #[.agg #[Kv k, St t, .slice an n cn, .slice aa m ca], .bool b, Kv p] w fun e w' => e = .returned (.bool (aloneB t n m b p)) ∧ Grew w w' := by
  have HG := hid (fun o => (Fr.refl (fun _ => False) w).alloc o)
  unfold aloneB
  cases ht : List.isEmpty t <;> cases b <;> rcases n with _ | n
  all_goals
    go_enter Try.func81, Try.ntmps81
    go_wp2
    go_ret
    exact ⟨by simp, HG.out _⟩

set_option maxHeartbeats 1000000 in
theorem shaped_nil (w : World) : Calls Try.prog 58 #[nilV] w fun e w' => e = .returned (.bool true) ∧ Grew w w' := by
  have ha := fun o => alone_any (w.alloc o) 3 [] none 0 0 none 0 0 false 0
  have HG := hid (fun o => (Fr.refl (fun _ => False) w).alloc o)
  go_enter Try.func58, Try.ntmps58
  go_wp2_with (go_at_call 81; refine (ha _).mono ?_; rintro e w' ⟨rfl, hg⟩)
  go_ret
  exact ⟨rfl, (HG.out _).trans hg (fun _ _ f => f)⟩

set_option maxHeartbeats 1000000 in
theorem right_nil (w : World) : Calls Try.prog 34 #[nilV] w fun e w' => e = .returned (.bool true) ∧ Grew w w' := by
  have HG := hid (fun o => (Fr.refl (fun _ => False) w).alloc o)
  have ha := fun w' => shaped_nil w'
  go_enter Try.func34, Try.ntmps34
  go_wp2
  go_loopw [8] (fun b wr => b = .int .i64 0 ∧ wr = w.alloc (.cells #[Kv 3, .string ⟨#[]⟩, .slice none 0 0, .slice none 0 0] 28)) (fun i _ => 0 - (intOf i).toNat)
  case atStart => exact ⟨rfl, rfl⟩
  case round =>
    obtain ⟨rfl, rfl⟩ := hrel
    go_wp2_with (go_at_call 58; refine (ha _).mono ?_; rintro e w' ⟨rfl, hg⟩)
    go_ret
    exact ⟨rfl, (HG.out _).trans hg (fun _ _ f => f)⟩

/-- whatever grows keeps the library's number -/
theorem Gl.grew {w w' : World} (h : Gl w) (k : Grew w w') : Gl w' := h.kept k (fun f => f)

set_option maxHeartbeats 1000000 in
/-- the chapter's example -/
theorem known_any {w : World} (h : Gl w) : Calls Try.prog 32 #[] w fun e w' => e = .returned (.bool true) ∧ Grew w w' := by
  have ht := text_nil w
  have ha := fun w' (k : Grew w w') => arity_any (h.grew k) [99, 97, 114] (by simp)
  have hb := fun w' (k : Grew w w') => arity_any (h.grew k) [110, 111] (by simp)
  have e1 : ar [99, 97, 114] = 1 := by decide
  have e2 : ar [110, 111] = 0 := by decide
  rw [e1] at ha
  rw [e2] at hb
  have HA := hid ha
  have HB := hid hb
  clear ha hb e1 e2 h
  go_enter Try.func32, Try.ntmps32
  go_wp2_with (first | (go_at_call 42; refine ht.mono ?_; rintro e w1 ⟨rfl, hg1⟩) | (go_at_call 34; refine (right_nil _).mono ?_; rintro e w2 ⟨rfl, hg2⟩) | (go_at_call 36; refine (HA.out _ hg1).mono ?_; rintro e w3 ⟨rfl, rfl⟩; clear HA) | (go_at_call 36; refine (HB.out _ hg1).mono ?_; rintro e w3 ⟨rfl, rfl⟩))
  go_ret
  exact ⟨rfl, hg1.trans hg2 (fun _ _ f => f)⟩
end Go.Proofs.Ytddcfnjmppijjaa
