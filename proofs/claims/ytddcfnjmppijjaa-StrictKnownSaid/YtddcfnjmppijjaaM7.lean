import Derived.Test.YtddcfnjmppijjaaM6
/-! Make: functions. -/
namespace Go.Proofs.Ytddcfnjmppijjaa
open Go.RowKit

theorem row_one {w : World} {D E : Nat → Prop} {x : X} {vn va : Value} (hn : Nm w D vn x.names) (hr : Row w D va x.parts) (hE : ∀ b, b < w.heap.size → E b → D b) (h0 : ¬ E w.heap.size) (o : Nat) (ho : o = w.heap.size) :
    Row (w.alloc (.cells #[Kv x.kind, St x.text, vn, va] 28)) E (.slice (some ⟨o, 0, none⟩) 1 1) [x] := by
  subst ho
  have hg : Grew w (w.alloc (.cells #[Kv x.kind, St x.text, vn, va] 28)) := (Fr.refl _ _).alloc _
  have hb := heap_alloc_new w (.cells #[Kv x.kind, St x.text, vn, va] 28)
  refine .mk [x] w.heap.size 0 1 (fun _ => vn) (fun _ => va) (Nat.le_refl _) (by simp [maxLen]) h0 ?_ ?_ ?_ ?_ ?_ ?_
  all_goals
    intro i hi
    obtain rfl : i = 0 := by simpa using hi
  · exact cell_of_get hb 0
  · exact cell_of_get hb 1
  · exact cell_of_get hb 2
  · exact cell_of_get hb 3
  · exact (hn.mono hE).grew hg
  · exact (hr.mono hE).grew hg

theorem nm_of_rt {B : Nat} {w : World} {v : Value} {l : List Str} (h : Rt B w v l) : Nm w (fun b => b < B) v l := by
  rcases h.2 with ⟨rfl, h2⟩ | ⟨g, cap, cur, rfl, hgB, hg, h3, h4, h5, h6⟩
  · have : l = [] := List.eq_nil_of_length_eq_zero h2
    subst this
    exact ⟨none, 0, rfl, Nat.le_refl _, by simp [maxLen], .inl rfl⟩
  · exact ⟨_, cap, rfl, h3, h4, .inr ⟨g, 0, rfl, by omega, fun i hi => by
      rw [Nat.zero_add]
      exact Rt.cellAt h i l[i] (List.getElem?_eq_getElem hi)⟩⟩

theorem lam_done {w' W wr w5 : World} {mb N N' b r c c1 i : Nat} {S : List Str} {v8 vN : Value} (hg : Grew w' W) (hb0 : w'.heap.size ≤ b) (hb1 : b < W.heap.size) (hr0 : w'.heap.size ≤ r) (hr1 : r < W.heap.size) (hmb : mb < w'.heap.size)
    (h : LS W mb N b 6 S i v8 wr) (hN : Rt W.heap.size wr vN (nms N i)) (hf5 : Fr (fun k => k = mb) wr w5) {x : X} {vn va : Value} (hn : Nm w5 (fun k => k < wr.heap.size) vn x.names) (hr : Row w5 (fun k => k < wr.heap.size) va x.parts)
    (hgd : Good (S ++ nms N i) x) (hs : x.size ≤ c1) (hm : Mk w5 mb N') (h1 : N + i ≤ N') (h2 : N' ≤ N + i + c1) (hi0 : 1 ≤ i) (hi2 : i ≤ 2) (hc : i + c1 ≤ c) (hNb : N < 900000) (V u0 u1 u2 u3 : Value) (o : Nat) (ho : o = w5.heap.size) :
    MkPost w' mb N S c (.returned (.agg #[Kv 6, St [], vN, .slice (some ⟨o, 0, none⟩) 1 1])) ((set4 (w5.setCell ⟨b, 3, none⟩ V) r u0 u1 u2 u3).alloc (.cells #[Kv x.kind, St x.text, vn, va] 28)) := by
  have hsz1 := hg.size
  have hsz2 := h.keep.size
  have hsz3 := hf5.size
  have hb' : Fr (fun k => k = b) w5 (w5.setCell ⟨b, 3, none⟩ V) := (Fr.refl (fun k => k = b) _).setCell (p := ⟨b, 3, none⟩) (fun _ => rfl) V
  have h4 := set4_fr (w5.setCell ⟨b, 3, none⟩ V) r u0 u1 u2 u3
  have hbr : Fr (fun k => k = b ∨ k = r) w5 (set4 (w5.setCell ⟨b, 3, none⟩ V) r u0 u1 u2 u3) :=
    (hb'.mono (fun _ _ e => .inl e)).trans h4 (fun _ _ e => .inr e)
  have hsz : (set4 (w5.setCell ⟨b, 3, none⟩ V) r u0 u1 u2 u3).heap.size = w5.heap.size := by simp [set4, World.setCell]
  generalize set4 (w5.setCell ⟨b, 3, none⟩ V) r u0 u1 u2 u3 = w6 at *
  have ha : Grew w6 (w6.alloc (.cells #[Kv x.kind, St x.text, vn, va] 28)) := (Fr.refl _ _).alloc _
  have hrow := row_one (E := fun k => k < W.heap.size) (hn.kept hbr (fun k e => by rcases e with rfl | rfl <;> omega)) (hr.kept hbr (fun k e => by rcases e with rfl | rfl <;> omega)) (fun b _ e => by omega) (by omega) o (by omega)
  have hnm : Nm w5 (fun k => k < W.heap.size) vN (nms N i) := (nm_of_rt (rt_kept hN hf5 (fun g hg e => by have := (hN.lt g hg).1; omega)))
  refine ⟨_, .mk 6 [] (nms N i) [x], N', rfl, ⟨vN, _, rfl, ?_, ?_⟩, ?_, ?_, ?_, by omega, by omega, ?_⟩
  · exact ((hnm.kept hbr (fun k e => by rcases e with rfl | rfl <;> omega)).grew ha).mono (fun k _ e => by omega)
  · exact hrow.mono (fun k _ e => by omega)
  · refine .lam S (nms N i) x (fun e => ?_) (by rw [nms_length]; omega) (nms_nodup N i) (nms_ok N i (by omega)) hgd
    have := congrArg List.length e
    rw [nms_length] at this
    simp at this; omega
  · simp only [X.size, sizes]; omega
  · exact Mk.grew (hbr.get hm (fun e => by rcases e with e | e <;> omega)) ha
  · refine ((((Grew.any hg).trans h.keep (G := fun k => k = mb ∨ k = b) (F := fun k => k = mb) (fun k hk e => by rcases e with e | e <;> omega)).trans hf5 (fun _ _ e => e)).trans hbr (fun k hk e => by rcases e with e | e <;> omega)).trans ha (fun _ _ e => e.elim)
end Go.Proofs.Ytddcfnjmppijjaa
