import Derived.Test.YtjhdnbediipibaaE12
/-! The document's collection: its state, round by round. -/
namespace Go.Proofs.Ytjhdnbediipibaa
open Go.RowKit

/-- the copier's state: rows laid, i done, k pointers of the next; ob, pv: that next object's block and row -/
def CC (cb xb tb d : Nat) (A : AH) (ν : Int → Int) (i k : Nat) (fr0 : List Nat) (N : Nat) (ob : Nat) (pv : Value) (s : CS) (w : World) : Prop :=
  ∃ P xs fr, RC w cb xb tb d s (ofP A s.ord P) xs fr ∧ Lay A ν i k s P ∧ (∀ b ∈ fr, b ∈ fr0 ∨ N ≤ b) ∧ ∃ hi : i < xs.length, xs[i].ob = ob ∧ xs[i].pv = pv

theorem RC.rx {w : World} {cb xb tb d : Nat} {s : CS} {T : AH} {xs : List PO} {fr : List Nat} (h : RC w cb xb tb d s T xs fr) : ∃ ft lv, RX w tb T ft lv xs := by
  obtain ⟨ft, lv, ov, nv, h1, _⟩ := h
  exact ⟨ft, lv, h1⟩
theorem RC.count {w : World} {cb xb tb d : Nat} {A : AH} {s : CS} {P : List (List Int)} {xs : List PO} {fr : List Nat} (h : RC w cb xb tb d s (ofP A s.ord P) xs fr) (hl : P.length = s.ord.length) : xs.length = s.ord.length := by
  obtain ⟨ft, lv, h1⟩ := h.rx
  have := congrArg List.length h1.objs
  rw [List.length_map, lay_objs hl] at this
  exact this.symm
theorem RC.obj {w : World} {cb xb tb d : Nat} {A : AH} {s : CS} {P : List (List Int)} {xs : List PO} {fr : List Nat} (h : RC w cb xb tb d s (ofP A s.ord P) xs fr) {i : Nat} (hi : i < xs.length) (ho : i < s.ord.length) {r : List Int} (hr : P[i]? = some r) :
    xs[i].at' = s.ord[i].2 ∧ xs[i].o = ⟨A.tag s.ord[i].1, r, A.nums s.ord[i].1⟩ := by
  obtain ⟨ft, lv, h1⟩ := h.rx
  have := congrArg (fun l => l[i]?) h1.objs
  simp only [List.getElem?_map, List.getElem?_eq_getElem hi, Option.map_some] at this
  rw [show (ofP A s.ord P).objs = List.zipWith (layRow A) s.ord P from rfl, List.getElem?_zipWith, List.getElem?_eq_getElem ho, hr] at this
  simp only [Option.some.injEq, PO.pair, layRow, Prod.mk.injEq] at this
  exact ⟨this.1.symm, this.2.symm⟩

theorem CC.kept {cb xb tb d : Nat} {A : AH} {ν : Int → Int} {i k : Nat} {fr0 : List Nat} {N : Nat} {ob : Nat} {pv : Value} {s : CS} {w w' : World} (h : CC cb xb tb d A ν i k fr0 N ob pv s w) (g : Grew w w') : CC cb xb tb d A ν i k fr0 N ob pv s w' := by
  obtain ⟨P, xs, fr, h1, h2, h3, h4⟩ := h
  exact ⟨P, xs, fr, h1.grew g, h2, h3, h4⟩

theorem CC.cells {cb xb tb d : Nat} {A : AH} {ν : Int → Int} {i k : Nat} {fr0 : List Nat} {N : Nat} {ob g n c : Nat} {s : CS} {w : World} (h : CC cb xb tb d A ν i k fr0 N ob (.slice (some ⟨g, 0, none⟩) n c) s w) (hi : i < s.ord.length) (hk : k < (A.ptrs s.ord[i].1).length) :
    w.cell? ⟨ob, 2, none⟩ = some (.slice (some ⟨g, 0, none⟩) n c) ∧ w.cell? ⟨g, k, none⟩ = some (Kv (A.ptrs s.ord[i].1)[k]) ∧ w.frozen? ⟨g, k, none⟩ = false ∧ n = (A.ptrs s.ord[i].1).length ∧ n ≤ c := by
  obtain ⟨P, xs, fr, h1, h2, _, hx, e1, e2⟩ := h
  have hr := h2.rows i hi
  obtain ⟨q1, q2⟩ := h1.obj hx hi hr
  obtain ⟨_, hr2, hr3⟩ := h2.store hi hk _ hr
  obtain ⟨ft, lv, hX⟩ := h1.rx
  obtain ⟨t1, t2, _⟩ := hX.each _ (List.getElem_mem hx)
  rw [e1] at t1
  rw [e2] at t1 t2
  rw [q2] at t2
  have hlen : 0 < (rowOf A ν i k i s.ord[i]).length := by rw [hr3]; omega
  obtain ⟨g', c', he, hc', _, _, hcl⟩ := t2.at hlen
  cases he
  have hkr : k < (rowOf A ν i k i s.ord[i]).length := by rw [hr3]; exact hk
  have hkk := hcl k hkr
  rw [List.getElem?_eq_getElem hkr] at hr2
  rw [Option.some.inj hr2] at hkk
  exact ⟨by rw [cell_of_get t1]; rfl, hkk.1, hkk.2, hr3, hc'⟩

theorem CC.copied {cb xb tb d : Nat} {A : AH} {ν : Int → Int} {i k : Nat} {fr0 f1 : List Nat} {N : Nat} {ob : Nat} {pv : Value} {s : CS} {w : World} (h : CC cb xb tb d A ν i k fr0 N ob pv s w) (hW : A.WF) (hd : d ≤ 1000) (hI : CS.Inv A s) (hi : i < s.ord.length)
    (hx : RH w xb A f1) (hN : N ≤ w.heap.size) (hdis : ∀ b ∈ f1, b ∉ fr0 ∧ b < N) {q : Int} (hq : A.has q) :
    Calls Try.prog 63 #[.pointer (some ⟨cb, 0, none⟩), .int .i64 q] w fun e w' => e = .returned (Kv (s.copied A d q).1) ∧ CC cb xb tb d A ν i k fr0 N ob pv (s.copied A d q).2 w' ∧ Fr (fun b => b ∈ fr0 ∨ N ≤ b) w w' := by
  obtain ⟨P, xs, fr, h1, h2, h3, hxl, e1, e2⟩ := h
  obtain ⟨u0, u1, u2⟩ := hI.le hW
  have huw := hW.uw
  have hw0 := hW.w0
  refine (rcopied_any hW hd hq hx h1 (fun b hb hm => ?_) (lay_used hI P) u0 (by omega) (by omega) (by rw [lay_objs h2.len]; omega)).mono ?_
  · rcases h3 b hm with e | e
    · exact (hdis b hb).1 e
    · have := (hdis b hb).2; omega
  · rintro e w' ⟨rfl, fr', ys, k1, k2, k3⟩
    obtain ⟨P', hP, hL⟩ := lay_copied h2 hI (short_has hW d q hq) (.inl hi)
    rw [hP] at k1
    refine ⟨rfl, ⟨P', xs ++ ys, fr', k1, hL, fun b hb => ?_, by rw [List.length_append]; omega, ?_, ?_⟩, k2.mono (fun b _ hb => h3 b hb)⟩
    · rcases k3 b hb with e | e
      · exact h3 b e
      · exact .inr (by omega)
    · rw [List.getElem_append_left hxl]; exact e1
    · rw [List.getElem_append_left hxl]; exact e2

theorem CC.store {cb xb tb d : Nat} {A : AH} {ν : Int → Int} {i k : Nat} {fr0 : List Nat} {N : Nat} {ob g n c : Nat} {s : CS} {w : World} (h : CC cb xb tb d A ν i k fr0 N ob (.slice (some ⟨g, 0, none⟩) n c) s w) (hi : i < s.ord.length) (hk : k < (A.ptrs s.ord[i].1).length) :
    CC cb xb tb d A ν i (k + 1) fr0 N ob (.slice (some ⟨g, 0, none⟩) n c) s (w.setCell ⟨g, k, none⟩ (Kv (ν (A.ptrs s.ord[i].1)[k]))) ∧ Fr (fun b => b ∈ fr0 ∨ N ≤ b) w (w.setCell ⟨g, k, none⟩ (Kv (ν (A.ptrs s.ord[i].1)[k]))) := by
  obtain ⟨_, _, _, hn, _⟩ := h.cells hi hk
  obtain ⟨P, xs, fr, h1, h2, h3, hxl, e1, e2⟩ := h
  have hr := h2.rows i hi
  obtain ⟨q1, q2⟩ := h1.obj hxl hi hr
  obtain ⟨hL, _, hr3⟩ := h2.store hi hk _ hr
  obtain ⟨ft, lv, ov, nv, t1, t2, t3, t4, t5, t6⟩ := h1
  have hpl : xs[i].o.ptrs.length = n := by rw [q2, hn]; exact hr3
  obtain ⟨k1, k2⟩ := t1.store hxl (g := g) (c := c) (k := k) (by rw [e2, hpl]) (ν (A.ptrs s.ord[i].1)[k])
  have hft : ∀ b ∈ ft, b ∈ fr := fun b hb => by rw [t5]; simp [hb]
  have hnd := t6
  rw [t5] at hnd
  simp only [List.nodup_cons, List.nodup_append, List.mem_append, Option.mem_toList] at hnd
  have hzip : (ofP A s.ord P).objs.set i (xs[i].at', { xs[i].o with ptrs := xs[i].o.ptrs.set k (ν (A.ptrs s.ord[i].1)[k]) }) = List.zipWith (layRow A) s.ord (P.set i ((rowOf A ν i k i s.ord[i]).set k (ν (A.ptrs s.ord[i].1)[k]))) := by
    apply List.ext_getElem?
    intro j
    rw [List.getElem?_zipWith]
    by_cases e : i = j
    · subst e
      rw [List.getElem?_set_self (by rw [lay_objs h2.len]; exact hi), List.getElem?_set_self (by rw [h2.len]; exact hi), List.getElem?_eq_getElem hi, q1, q2]
      rfl
    · rw [List.getElem?_set_ne e, List.getElem?_set_ne e, ← List.getElem?_zipWith]
      rfl
  rw [hzip] at k1
  refine ⟨⟨_, _, fr, ⟨ft, lv, ov, nv, k1, k2.get t2 (fun hm => hnd.1 (.inr (.inr hm))), t3.kept k2 (fun b hb hm => hnd.2.2.2 b hb b (.inr hm) rfl), t4.kept k2 (fun b hb hm => hnd.2.2.1.2.2 b hb b hm rfl), t5, t6⟩, hL, h3, by rw [List.length_set]; exact hxl, ?_, ?_⟩, k2.mono (fun b _ hb => h3 b (hft b hb))⟩
  · rw [List.getElem_set_self]; exact e1
  · rw [List.getElem_set_self]; exact e2
end Go.Proofs.Ytjhdnbediipibaa
