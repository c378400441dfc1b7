import Derived.Test.YtddcfnjmppijjaaM24
import Derived.Test.YtddcfnjmppijjaaM25
/-! Term, of any raw terms. -/
namespace Go.Proofs.Ytddcfnjmppijjaa
open Go.RowKit

theorem heap_a2' (w : World) (o1 o2 : Obj) : ((w.alloc o1).alloc o2).heap[w.heap.size]? = some o1 := ((Fr.refl (fun _ => False) _).alloc _).get (heap_alloc_new _ _) (fun f => f)

theorem term_nil_done {w W : World} (hg : Grew w W) :
    TmPost w [] (.returned (.agg #[Kv 1, St [53], .slice none 0 0, .slice none 0 0])) W :=
  ⟨_, _, rfl, rd_atom _ _ 1 [53], .int _ _ (by decide), by simp only [X.size, sizes]; omega, hg⟩

theorem term_one_done {w W2 w5 : World} {r : RT} {N : Nat} {e : Ending} (hg : Grew w W2) (hs : W2.heap.size = w.heap.size + 2) (h : MkPost W2 (w.heap.size + 1) N [] (8 * (1 + nodesL r.l)) e w5) (u0 u1 u2 u3 : Value) :
    TmPost w [r] e (set4 w5 w.heap.size u0 u1 u2 u3) := by
  obtain ⟨e', x, N', rfl, hrd, hgd, hsz, -, -, -, hfr⟩ := h
  have := hfr.size
  have h4 := set4_fr w5 w.heap.size u0 u1 u2 u3
  refine ⟨_, x, rfl, ?_, hgd, ?_, ?_⟩
  · exact ((hrd.mono (E := fun b => b < w.heap.size + 1) (fun b _ e => by omega)).kept h4 (fun b e => by omega)).mono (fun b _ e => by omega)
  · have e := RT.nodes_eq r
    simp only [nodesL] at *
    omega
  · exact (hg.trans hfr (fun k hk e => by omega)).trans h4 (fun k hk e => by omega)

set_option maxHeartbeats 8000000 in
set_option maxRecDepth 100000 in
theorem term_nil {w : World} (ad : Option Addr) (cap : Nat) : Calls Try.prog 18 #[.slice ad 0 cap] w (TmPost w []) := by
  have HG := hid (fun o1 o2 => ((Fr.refl (fun _ => False) w).alloc o1).alloc o2)
  go_enter Try.func18, Try.ntmps18
  go_wp2
  refine bodyPost_ret (res28 Try.results18 _ _ w.heap.size rfl (heap_a2' _ _ _)) rfl ?_
  exact term_nil_done (HG.out _ _)

set_option maxHeartbeats 8000000 in
set_option maxRecDepth 100000 in
theorem term_one {w : World} {va : Value} {r : RT} (h : RRow w (fun _ => False) va [r]) (hn : nodesL [r] ≤ 40) : Calls Try.prog 18 #[va] w (TmPost w [r]) := by
  obtain ⟨g, o, cap, rfl, hc1, hc2, -, hel⟩ := h.elems.resolve_left (fun e => by simp at e)
  obtain ⟨aa, ca, he⟩ := hel 0 r rfl
  have e0 := he.c0
  have e1 := he.c1
  have e2 := he.c2
  rw [Nat.zero_mul, Nat.add_zero] at e0 e1 e2
  have hgl : g < w.heap.size := World.block_lt_of_cell? w _ e0
  obtain ⟨W2, hW2⟩ : ∃ q : World, q = (w.alloc newB).alloc mkB := ⟨_, rfl⟩
  have hs2 : W2.heap.size = w.heap.size + 2 := by rw [hW2]; simp
  have hg2 : Grew w W2 := by rw [hW2]; exact ((Fr.refl _ _).alloc _).alloc _
  have hres : W2.heap[w.heap.size]? = some newB := by rw [hW2]; exact ((Fr.refl (fun _ => False) _).alloc _).get (heap_alloc_new _ _) (fun f => f)
  have hmk : Mk W2 (w.heap.size + 1) 0 := by rw [hW2]; exact heap_a2 _ _ _
  have hnr : nodesL r.l ≤ 40 := by have := RT.nodes_eq r; simp only [nodesL] at hn; omega
  have hM : Calls Try.prog 30 #[.pointer (some ⟨w.heap.size + 1, 0, none⟩), .agg #[Kv r.k, Kv r.n, .slice aa r.l.length ca], .slice none 0 0] W2 (MkPost W2 (w.heap.size + 1) 0 [] (8 * (1 + nodesL r.l))) :=
    make_any (mb := w.heap.size + 1) (he.row.mono (fun b hb e => by omega)) W2 r.k r.n 0 (.slice none 0 0) [] (Grew.any hg2) hmk (by omega) ⟨none, 0, rfl, Nat.le_refl _, by simp [maxLen], .inl rfl⟩ (fun s hs => by simp at hs) (by simp; omega)
  have HGS := hid (And.intro hg2 (And.intro hres hs2))
  rw [hW2] at hM
  have HWE := hid hW2
  clear h hel he hn hg2 hres hs2 hmk hnr hW2
  go_enter Try.func18, Try.ntmps18
  go_wp2_with (go_at_call 30; (with_reducible refine hM.mono ?_); intro e w5 hp; clear hM; have HP := hid hp; obtain ⟨e', x, N', rfl, hrd, hgd, hsz, hm2, hm3, hm4, hfr⟩ := hp; obtain ⟨vn, va, rfl, hnn, hrr⟩ := hrd; obtain ⟨a1, c1, rfl, -⟩ := hnn.shape; obtain ⟨a2, c2, rfl, -⟩ := hrr.shape; clear hnn hrr; obtain ⟨hg2, hres, hs2⟩ := HGS.out; rw [← HWE.out] at hfr; have hres5 : w5.heap[w.heap.size]? = some newB := hfr.get hres (by omega); have HR5 := hid hres5; have q0 := cell_of_get hres5 0; have q1 := cell_of_get hres5 1; have q2 := cell_of_get hres5 2; have q3 := cell_of_get hres5 3; have f0 := frozen_of_get hres5 0; have f1 := frozen_of_get hres5 1; have f2 := frozen_of_get hres5 2; have f3 := frozen_of_get hres5 3; clear hg2 hres hres5 hgd hsz hm2 hm3 hm4 hfr)
  refine bodyPost_ret (res28 Try.results18 _ _ w.heap.size rfl (set4_heap HR5.out _ _ _ _)) rfl ?_
  obtain ⟨hg2, -, -⟩ := HGS.out
  exact term_one_done hg2 hs2 (HWE.out ▸ HP.out) _ _ _ _

theorem term_any {w : World} {va : Value} {l : List RT} (h : RRow w (fun _ => False) va l) (hn : nodesL l ≤ 40) : Calls Try.prog 18 #[va] w (TmPost w l) := by
  match l, h, hn with
  | [], h, _ =>
    obtain ⟨ad, cap, rfl, -⟩ := h.shape
    exact term_nil ad cap
  | [r], h, hn => exact term_one h hn
  | a :: b :: l, h, hn =>
    rcases Nat.lt_or_ge 5 (a :: b :: l).length with h5 | h5
    · exact term_b h (by simp) h5 hn
    · exact term_a h (by simp) h5 hn
end Go.Proofs.Ytddcfnjmppijjaa
