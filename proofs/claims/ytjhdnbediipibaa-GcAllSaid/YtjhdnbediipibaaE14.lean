import Derived.Test.YtjhdnbediipibaaE13
/-! The document's collection. -/
namespace Go.Proofs.Ytjhdnbediipibaa
open Go.RowKit

section
variable {cb xb tb d : Nat} {A : AH} {ν : Int → Int} {i k : Nat} {fr0 f1 : List Nat} {N : Nat} {ob : Nat} {pv : Value} {s : CS} {q : Int}

/-- the way through a statement that copies once: it may have, or not yet -/
structure CSt (cb xb tb d : Nat) (A : AH) (ν : Int → Int) (i k : Nat) (fr0 : List Nat) (N : Nat) (ob : Nat) (pv : Value) (s : CS) (q : Int) (a b : World) : Prop where
  fr : Fr (fun x => x ∈ fr0 ∨ N ≤ x) a b
  c0 : CC cb xb tb d A ν i k fr0 N ob pv s a → CC cb xb tb d A ν i k fr0 N ob pv s b ∨ CC cb xb tb d A ν i k fr0 N ob pv (s.copied A d q).2 b
  c1 : CC cb xb tb d A ν i k fr0 N ob pv (s.copied A d q).2 a → CC cb xb tb d A ν i k fr0 N ob pv (s.copied A d q).2 b
theorem CSt.grew {a b : World} (g : Grew a b) : CSt cb xb tb d A ν i k fr0 N ob pv s q a b := ⟨g.any, fun h => .inl (h.kept g), fun h => h.kept g⟩
theorem CSt.trans {a b c : World} (h : CSt cb xb tb d A ν i k fr0 N ob pv s q a b) (k' : CSt cb xb tb d A ν i k fr0 N ob pv s q b c) : CSt cb xb tb d A ν i k fr0 N ob pv s q a c :=
  ⟨h.fr.trans k'.fr (fun _ _ f => f), fun p => (h.c0 p).elim k'.c0 (fun r => .inr (k'.c1 r)), fun p => k'.c1 (h.c1 p)⟩
def FCop (cb xb tb d : Nat) (A : AH) (ν : Int → Int) (i k : Nat) (fr0 : List Nat) (N : Nat) (ob : Nat) (pv : Value) (s : CS) (q : Int) (v : Value) (w : World) : Prop :=
  v = Kv (s.copied A d q).1 ∧ CC cb xb tb d A ν i k fr0 N ob pv (s.copied A d q).2 w
theorem FCop.stays : ∀ v w w', CSt cb xb tb d A ν i k fr0 N ob pv s q w w' → FCop cb xb tb d A ν i k fr0 N ob pv s q v w → FCop cb xb tb d A ν i k fr0 N ob pv s q v w' := fun _ _ _ h k => ⟨k.1, h.c1 k.2⟩

theorem copied_at {A : AH} {d : Nat} {s : CS} {q : Int} {i : Nat} (hi : i < s.ord.length) : ∃ h : i < (s.copied A d q).2.ord.length, (s.copied A d q).2.ord[i] = s.ord[i] := by
  obtain ⟨⟨m, hm⟩, _⟩ := copied_grows A d s q
  have hl : i < (s.copied A d q).2.ord.length := by rw [hm, List.length_append]; omega
  refine ⟨hl, ?_⟩
  have : (s.copied A d q).2.ord[i]? = s.ord[i]? := by rw [hm, List.getElem?_append_left hi]
  rw [List.getElem?_eq_getElem hl, List.getElem?_eq_getElem hi] at this
  exact Option.some.inj this

theorem CC.row {w : World} (h : CC cb xb tb d A ν i k fr0 N ob pv s w) : w.cell? ⟨ob, 2, none⟩ = some pv := by
  obtain ⟨P, xs, fr, h1, h2, _, hx, e1, e2⟩ := h
  obtain ⟨ft, lv, hX⟩ := h1.rx
  obtain ⟨t1, _⟩ := hX.each _ (List.getElem_mem hx)
  rw [e1, e2] at t1
  rw [cell_of_get t1]; rfl
theorem CSt.cells {g n c : Nat} {w0 w : World} (h : CSt cb xb tb d A ν i k fr0 N ob (.slice (some ⟨g, 0, none⟩) n c) s q w0 w) (h0 : CC cb xb tb d A ν i k fr0 N ob (.slice (some ⟨g, 0, none⟩) n c) s w0) (hi : i < s.ord.length) (_hI : CS.Inv A s) (hks : ∃ hk : k < (A.ptrs s.ord[i].1).length, (A.ptrs s.ord[i].1)[k] = q) :
    w.cell? ⟨ob, 2, none⟩ = some (.slice (some ⟨g, 0, none⟩) n c) ∧ w.cell? ⟨g, k, none⟩ = some (Kv q) := by
  obtain ⟨hk, rfl⟩ := hks
  rcases h.c0 h0 with p | p
  · have := p.cells hi hk
    exact ⟨this.1, this.2.1⟩
  · obtain ⟨hi', he⟩ := copied_at (A := A) (d := d) (q := (A.ptrs s.ord[i].1)[k]) hi
    have := p.cells hi' (by rw [he]; exact hk)
    refine ⟨this.1, ?_⟩
    rw [this.2.1]
    congr 2
    simp only [he]
theorem CSt.copied {w0 w : World} (h : CSt cb xb tb d A ν i k fr0 N ob pv s q w0 w) (h0 : CC cb xb tb d A ν i k fr0 N ob pv s w0) (hW : A.WF) (hd : d ≤ 1000) (hI : CS.Inv A s) (hi : i < s.ord.length) (hx : RH w0 xb A f1) (hN : N ≤ w0.heap.size) (hdis : ∀ b ∈ f1, b ∉ fr0 ∧ b < N) (hq : A.has q) :
    Calls Try.prog 63 #[.pointer (some ⟨cb, 0, none⟩), .int .i64 q] w fun e w' => e = .returned (Kv (s.copied A d q).1) ∧ FCop cb xb tb d A ν i k fr0 N ob pv s q (Kv (s.copied A d q).1) w' ∧ CSt cb xb tb d A ν i k fr0 N ob pv s q w w' := by
  have hx' := hx.kept h.fr (fun b hb e => e.elim (hdis b hb).1 (fun e => by have := (hdis b hb).2; omega))
  have hN' : N ≤ w.heap.size := Nat.le_trans hN h.fr.size
  rcases h.c0 h0 with p | p
  · refine (p.copied hW hd hI hi hx' hN' hdis hq).mono ?_
    rintro e w' ⟨rfl, k1, k2⟩
    exact ⟨rfl, ⟨rfl, k1⟩, k2, fun _ => .inr k1, fun _ => k1⟩
  · obtain ⟨hi', _⟩ := copied_at (A := A) (d := d) (q := q) hi
    have hI' := hI.copied hW d hq
    refine (p.copied hW hd hI' hi' hx' hN' hdis hq).mono ?_
    rintro e w' ⟨rfl, k1, k2⟩
    rw [(copied_twice A d s q).1] at k1 ⊢
    exact ⟨rfl, ⟨rfl, k1⟩, k2, fun _ => .inr k1, fun _ => k1⟩
end

/-- what it leaves -/
def RCollectPost (w : World) (A : AH) (d : Nat) (roots : List Int) (e : Ending) (w' : World) : Prop :=
  ∃ tb ft tv, e = .returned (.tuple #[.pointer (some ⟨tb, 0, none⟩), tv, .bool true]) ∧ RH w' tb (A.gcd d (A.final d roots)) ft ∧ Ow w' tv (A.told d roots) ∧ Grew w w' ∧
    (∀ b ∈ ft, w.heap.size ≤ b) ∧ (∀ g, tv.ownBlock = some g → w.heap.size ≤ g ∧ g ∉ ft)
def RRel2 (w : World) (A : AH) (cb xb tb d : Nat) (ν : Int → Int) (roots : List Int) (i : Nat) (tv : Value) (wr : World) : Prop :=
  ∃ P xs fr, RC wr cb xb tb d (CS.all A d ⟨[], 0⟩ (roots.take i)).2 (ofP A (CS.all A d ⟨[], 0⟩ (roots.take i)).2.ord P) xs fr ∧ Lay A ν 0 0 (CS.all A d ⟨[], 0⟩ (roots.take i)).2 P ∧ Grew w wr ∧
    (∀ b ∈ fr, w.heap.size ≤ b) ∧ Beside w.heap.size fr wr tv (CS.all A d ⟨[], 0⟩ (roots.take i)).1
def RRel3 (w : World) (A : AH) (cb xb tb d : Nat) (ν : Int → Int) (roots : List Int) (tv : Value) (i : Nat) (wr : World) : Prop :=
  ∃ s P xs fr, RunInv A d roots i s ∧ RC wr cb xb tb d s (ofP A s.ord P) xs fr ∧ Lay A ν i 0 s P ∧ Grew w wr ∧ (∀ b ∈ fr, w.heap.size ≤ b) ∧ Beside w.heap.size fr wr tv (A.told d roots)

theorem RC.start {w : World} {A : AH} {xb tb d : Nat} {ft : List Nat} (p : RH w tb ⟨[], 0, A.words⟩ ft) :
    ∃ fr, RC (w.alloc (.cells #[.pointer (some ⟨xb, 0, none⟩), .pointer (some ⟨tb, 0, none⟩), .int .i64 d, .slice none 0 0, .slice none 0 0] 92)) w.heap.size xb tb d ⟨[], 0⟩ (ofP A [] []) [] fr ∧ ∀ b ∈ fr, b ∈ ft ∨ b = w.heap.size := by
  have hlt := p.lt
  obtain ⟨lv, xs, h⟩ := p
  have hx : xs = [] := by
    have := h.objs
    simp only [List.nil_eq, List.map_eq_nil_iff] at this
    exact this
  subst hx
  refine ⟨w.heap.size :: ft, ⟨ft, lv, .slice none 0 0, .slice none 0 0, h.kept (Grew.alloc w _) (fun _ _ f => f), heap_alloc_new w _, Ow.nil _, Ow.nil _, rfl, ?_⟩, fun b hb => ?_⟩
  · rw [List.nodup_cons]
    exact ⟨fun hm => by have := hlt _ hm; omega, h.nodup⟩
  · rcases List.mem_cons.1 hb with e | e
    · exact .inr e
    · exact .inl e
theorem all_at {A : AH} {d : Nat} {s : CS} (l : List Int) {i : Nat} (hi : i < s.ord.length) : ∃ h : i < (s.all A d l).2.ord.length, (s.all A d l).2.ord[i] = s.ord[i] := by
  obtain ⟨⟨m, hm⟩, _⟩ := all_grows A d s l
  have hl : i < (s.all A d l).2.ord.length := by rw [hm, List.length_append]; omega
  refine ⟨hl, ?_⟩
  have : (s.all A d l).2.ord[i]? = s.ord[i]? := by rw [hm, List.getElem?_append_left hi]
  rw [List.getElem?_eq_getElem hl, List.getElem?_eq_getElem hi] at this
  exact Option.some.inj this
theorem take_next {l : List Int} {j : Nat} (h : j < l.length) : l.take (j + 1) = l.take j ++ [l[j]] := List.take_succ_eq_append_getElem h

set_option maxHeartbeats 8000000 in
set_option maxRecDepth 100000 in
theorem rcollect_ok {xb : Nat} {A : AH} {f1 : List Nat} {d : Nat} {w : World} (hA : A.WF) (hd : d ≤ 1000) (h : RH w xb A f1) {rv : Value} {roots : List Int} (hr : Ow w rv roots) (hlen : roots.length ≤ 1000000) (hall : ∀ k ∈ roots, A.has k) :
    Calls Try.prog 46 #[.pointer (some ⟨xb, 0, none⟩), rv, .int .i64 d] w (RCollectPost w A d roots) := by
  obtain ⟨ra, rc, rfl, hrc, _⟩ := hr.shape
  have hcell : ∀ i (hi : i < roots.length), ∃ g, ra = some ⟨g, 0, none⟩ ∧ w.cell? ⟨g, i, none⟩ = some (Kv roots[i]) := by
    intro i hi
    obtain ⟨g, c, he, _, _, _, hc⟩ := hr.at (by omega)
    cases he
    exact ⟨g, rfl, (hc i hi).1⟩
  have HR := hid (And.intro hcell (And.intro hall (And.intro h hA)))
  clear hcell hall h hr hA
  go_enter Try.func46, Try.ntmps46
  go_wp2
  go_loopw [9] (fun i wx => ∃ j : Nat, j ≤ roots.length ∧ i = .int .i64 j ∧ wx = w) (fun i _ => roots.length - (intOf i).toNat)
  case atStart => exact ⟨0, Nat.zero_le _, rfl, rfl⟩
  case round =>
    obtain ⟨j, hj, rfl, hwx⟩ := hrel
    replace hwx := hwx.symm
    subst hwx
    by_cases hj1 : j < roots.length
    · obtain ⟨g, rfl, hc⟩ := HR.out.1 j hj1
      have hjc : j < rc := by omega
      have hta := rtag_any HR.out.2.2.1 HR.out.2.2.2.fine.few roots[j]
      have htz : (A.tag roots[j] == 0) = false := by
        have h1 := tag_has HR.out.2.2.2 roots[j]
        have h2 := HR.out.2.1 _ (List.getElem_mem hj1)
        have : A.tag roots[j] ≠ 0 := fun e => h1.1 e h2
        simpa using this
      generalize A.tag roots[j] = t at *
      obtain ⟨q, hq⟩ : ∃ q, roots[j] = q := ⟨_, rfl⟩
      rw [hq] at hc hta
      clear hq
      go_wp2_with (go_at_call 43; refine hta.mono ?_; rintro e w' ⟨rfl, rfl⟩)
      go_roundw
      case rel => exact ⟨j + 1, by omega, by go_num, trivial⟩
      case measure => simp [intOf]; omega
    · have hwo := rwords_any HR.out.2.2.1
      go_wp2_with fail
      refine hwo.mono ?_
      rintro e w' ⟨rfl, rfl⟩
      go_wp2_with fail
      refine (rnew_any _ _).mono ?_
      rintro e w2 ⟨tb, ft, rfl, p2, g2, b2⟩
      have H2 := hid (And.intro p2 (And.intro g2 b2))
      clear p2 g2 b2 hwo
      have hws := H2.out.2.1.size
      obtain ⟨fr0, hrc0, hfr0⟩ := RC.start (xb := xb) (d := d) H2.out.1
      have HS := hid (show RRel2 w A w2.heap.size xb tb d ((A.final d roots).new A d) roots 0 (.slice none 0 0) (w2.alloc (.cells #[.pointer (some ⟨xb, 0, none⟩), .pointer (some ⟨tb, 0, none⟩), .int .i64 d, .slice none 0 0, .slice none 0 0] 92)) from
        ⟨[], [], fr0, hrc0, Lay.nil _ _, H2.out.2.1.trans (Grew.alloc _ _) (fun _ _ f => f), fun b hb => (hfr0 b hb).elim (H2.out.2.2 b) (fun e => by omega), Ow.nil _, fun g hg => (by cases hg)⟩)
      clear hrc0 hfr0 H2 hws
      go_wp2
      obtain ⟨cb, hcb⟩ : ∃ cb, w2.heap.size = cb := ⟨_, rfl⟩
      rw [hcb] at HS ⊢
      clear hcb hj1
      go_loopw [11, 12] (fun tv i wr => ∃ j : Nat, j ≤ roots.length ∧ i = .int .i64 j ∧ RRel2 w A cb xb tb d ((A.final d roots).new A d) roots j tv wr) (fun _ i _ => roots.length - (intOf i).toNat)
      case atStart => exact ⟨0, Nat.zero_le _, rfl, HS.out⟩
      case round =>
        clear HS
        obtain ⟨j, hj, rfl, P, xs, fr, r1, r2, r3, r4, r5⟩ := hrel
        have hA := HR.out.2.2.2
        have hth : ∀ k ∈ roots.take j, A.has k := fun k hk => HR.out.2.1 k (List.mem_of_mem_take hk)
        have hI := (CS.Inv.nil A).all hA d (roots.take j) hth
        by_cases hj1 : j < roots.length
        · obtain ⟨g, rfl, hc⟩ := HR.out.1 j hj1
          have hjc : j < rc := by omega
          replace hc := r3.cell hc (fun f => f)
          have hqh := HR.out.2.1 _ (List.getElem_mem hj1)
          have hnx := CS.all_snoc A d ⟨[], 0⟩ (roots.take j) roots[j]
          rw [← take_next hj1] at hnx
          obtain ⟨u0, u1, u2⟩ := hI.le hA
          have huw := hA.uw
          have hw0 := hA.w0
          obtain ⟨P', hP, hL⟩ := lay_copied r2 hI (short_has hA d _ hqh) (.inr ⟨rfl, rfl⟩)
          have hcop := rcopied_any hA hd hqh (HR.out.2.2.1.grew r3) r1 (fun b hb hm => by have := r4 b hm; have := HR.out.2.2.1.lt b hb; omega) (lay_used hI P) u0 (by omega) (by omega) (by rw [lay_objs r2.len]; omega)
          obtain ⟨q, hq⟩ : ∃ q, roots[j] = q := ⟨_, rfl⟩
          rw [hq] at hc hcop hnx hP hL
          have hlj : (CS.all A d ⟨[], 0⟩ (roots.take j)).1.length ≤ 1000000 := by rw [CS.all_len, List.length_take]; omega
          obtain ⟨ta, tc, rfl, _, _⟩ := r5.ow.shape
          generalize hsj : (CS.all A d ⟨[], 0⟩ (roots.take j)) = sj at *
          have H := hid (And.intro hP (And.intro hL (And.intro hnx (And.intro r3 (And.intro r4 r5)))))
          clear hP hL hnx r1 r2 r3 r4 r5 hI u0 u1 u2 hth hA hqh hq hsj
          go_wp2_with fail
          refine hcop.mono ?_
          rintro e w4 ⟨rfl, fr', ys, k1, k2, k3⟩
          obtain ⟨hP, hL, hnx, r3, r4, r5⟩ := H.out
          rw [hP] at k1
          have b4 := r5.made k2 k3
          have g4 := grew_step r3 k2 (fun b hb => r4 b hb)
          have hb4 : ∀ b ∈ fr', w.heap.size ≤ b := fun b hb => by
            have := r3.size
            rcases k3 b hb with e | e
            · exact r4 b e
            · omega
          have ga := Grew.alloc w4 (.cells #[.int .i64 (CS.copied A d sj.2 q).1] 3)
          obtain ⟨v', w5, happ, b5, f5, _⟩ := (b4.grew ga).app ((g4.trans ga (fun _ _ f => f)).size) (k1.grew ga).lt (Ow.one w4 (CS.copied A d sj.2 q).1) (by simp; omega) 22
          have HREL := hid (show RRel2 w A cb xb tb d ((A.final d roots).new A d) roots (j + 1) v' w5 from by
            refine ⟨P', xs ++ ys, fr', ?_, ?_, grew_step (g4.trans ga (fun _ _ f => f)) f5 (fun b hb => (b4.own b hb).1), hb4, ?_⟩
            · rw [hnx]; exact (k1.grew ga).kept f5 (fun b hb e => (b4.own b e).2 hb)
            · rw [hnx]; exact hL
            · rw [hnx]; exact b5)
          have HAPP := hid happ
          clear hP hL hnx r3 r4 r5 k1 k2 k3 b4 g4 hb4 ga happ b5 f5 hcop H hc
          go_wp2_with (at_builtin; refine wpList_app rfl rfl rfl rfl HAPP.out ?_)
          go_roundw
          case rel => exact ⟨j + 1, by omega, by go_num, HREL.out⟩
          case measure => simp [intOf]; omega
        · have hjr : roots.take j = roots := List.take_of_length_le (by omega)
          rw [hjr] at r1 r2 r5 hI
          have hor := (RunInv.start hA d HR.out.2.1).lenle hA
          obtain ⟨ta, tc, rfl, _, _⟩ := r5.ow.shape
          have HS := hid (show RRel3 w A cb xb tb d ((A.final d roots).new A d) roots (.slice ta (CS.all A d ⟨[], 0⟩ roots).1.length tc) 0 wr from ⟨_, P, xs, fr, RunInv.start hA d HR.out.2.1, r1, r2, r3, r4, r5⟩)
          have hAl := hA.len
          clear r1 r2 r3 r4 r5 hjr hI hth hor
          obtain ⟨tl, htl⟩ : ∃ n, (CS.all A d ⟨[], 0⟩ roots).1.length = n := ⟨_, rfl⟩
          rw [htl] at HS ⊢
          clear htl
          go_wp2
          clear hj1
          go_loopw [13] (fun i wr => ∃ j : Nat, j ≤ 1000000 ∧ i = .int .i64 j ∧ RRel3 w A cb xb tb d ((A.final d roots).new A d) roots (.slice ta tl tc) j wr) (fun i _ => 1000001 - (intOf i).toNat)
          case atStart => exact ⟨0, by omega, rfl, HS.out⟩
          case round =>
            clear HS
            obtain ⟨j, hj, rfl, s, P, xs, fr, ri, r1, r2, r3, r4, r5⟩ := hrel
            have hcount := r1.count r2.len
            have hle := ri.lenle hA
            obtain ⟨ft, lv, ov, nv, t1, t2, t3, t4, t5, t6⟩ := id r1
            have c1 : wr.cell? ⟨cb, 1, none⟩ = some (.pointer (some ⟨tb, 0, none⟩)) := by rw [cell_of_get t2]; rfl
            have c2 := t1.cells.2.2
            obtain ⟨la, lc, rfl, hlc, _, hlat⟩ := t1.at
            by_cases hj1 : j < xs.length
            · have hjo : j < s.ord.length := by omega
              obtain ⟨gl, rfl, hcl⟩ := hlat j hj1
              have hjc : j < lc := by omega
              obtain ⟨e1, e2⟩ := r1.obj hj1 hjo (r2.rows j hjo)
              rw [rowOf_zero _ _ _ _ _ (by omega)] at e2
              obtain ⟨x1, x2, _⟩ := t1.each _ (List.getElem_mem hj1)
              rw [e2] at x2
              have hpv : wr.cell? ⟨xs[j].ob, 2, none⟩ = some xs[j].pv := by rw [cell_of_get x1]; rfl
              have hnx := ri.step hA hjo
              obtain ⟨ps, hps⟩ : ∃ l, A.ptrs s.ord[j].1 = l := ⟨_, rfl⟩
              have hps60 := hA.shaped.ptrs_le s.ord[j].1
              rw [hps] at x2 hnx hps60
              have hpsh : ∀ q ∈ ps, A.has q := fun q hq => hA.ptr_has (k := s.ord[j].1) (by rw [hps]; exact hq)
              obtain ⟨ob, hob⟩ : ∃ b, xs[j].ob = b := ⟨_, rfl⟩
              unfold PO.ptr at hcl
              rw [hob] at hcl hpv
              by_cases hz : 0 < ps.length
              · obtain ⟨g, c, epv, hnc, _, hgl, _⟩ := x2.at hz
                rw [epv] at hpv
                obtain ⟨n, hn⟩ : ∃ n, ps.length = n := ⟨_, rfl⟩
                rw [hn] at hpv epv hnc hz hps60
                obtain ⟨wo, rfl⟩ : ∃ q : World, q = wr := ⟨_, rfl⟩
                have HC0 := hid (show CC cb xb tb d A ((A.final d roots).new A d) j 0 fr wo.heap.size ob (.slice (some ⟨g, 0, none⟩) n c) (CS.all A d s (ps.take 0)).2 wo from ⟨P, xs, fr, r1, r2, fun b hb => .inl hb, hj1, hob, epv⟩)
                have HB := hid (And.intro ri (And.intro r3 (And.intro r4 (And.intro r5 (And.intro hnx (And.intro hpsh (And.intro hps hn)))))))
                clear ri r1 r2 r3 r4 r5 t1 t2 t3 t4 t5 t6 e1 e2 x1 x2 hnx hlat epv hob hpsh
                go_wp2
                go_loopw [15] (fun i wx => ∃ k : Nat, k ≤ n ∧ i = .int .i64 k ∧ CC cb xb tb d A ((A.final d roots).new A d) j k fr wo.heap.size ob (.slice (some ⟨g, 0, none⟩) n c) (CS.all A d s (ps.take k)).2 wx ∧ Fr (fun b => b ∈ fr ∨ wo.heap.size ≤ b) wo wx) (fun i _ => n - (intOf i).toNat)
                case atStart => exact ⟨0, Nat.zero_le _, rfl, HC0.out, Fr.refl _ _⟩
                case round =>
                  clear HC0 c1 c2 hcl hpv
                  obtain ⟨k, hk, rfl, hC, hF⟩ := hrel
                  obtain ⟨hjk, hjke⟩ := all_at (A := A) (d := d) (ps.take k) hjo
                  have hIk := HB.out.1.inv.all hA d (ps.take k) (fun q hq => HB.out.2.2.2.2.2.1 q (List.mem_of_mem_take hq))
                  have hpv := hC.row
                  by_cases hkn : k < n
                  · have hkp : k < ps.length := by rw [HB.out.2.2.2.2.2.2.2]; exact hkn
                    have hqh := HB.out.2.2.2.2.2.1 _ (List.getElem_mem hkp)
                    have hsn := CS.all_snoc A d s (ps.take k) ps[k]
                    rw [← take_next hkp] at hsn
                    have hpe : A.ptrs (CS.all A d s (ps.take k)).2.ord[j].1 = ps := by rw [hjke, HB.out.2.2.2.2.2.2.1]
                    have hks : ∃ hk : k < (A.ptrs (CS.all A d s (ps.take k)).2.ord[j].1).length, (A.ptrs (CS.all A d s (ps.take k)).2.ord[j].1)[k] = ps[k] := ⟨by rw [hpe]; exact hkp, by simp only [hpe]⟩
                    have hν : (CS.copied A d (CS.all A d s (ps.take k)).2 ps[k]).1 = (A.final d roots).new A d ps[k] := by
                      obtain ⟨m1, hm1⟩ := HB.out.2.2.2.2.1.fore
                      obtain ⟨m2, hm2⟩ := all_more A d s (ps.take (k + 1)) (ps.drop (k + 1))
                      rw [List.take_append_drop] at hm2
                      have hgr := (copied_grows A d (CS.all A d s (ps.take k)).2 ps[k]).2
                      have e : (CS.all A d s (ps.take (k + 1))).2 = (CS.copied A d (CS.all A d s (ps.take k)).2 ps[k]).2 := by rw [hsn]; rfl
                      rw [← e] at hgr
                      have := lookI_append m1 (lookI_append m2 hgr)
                      rw [← hm2, ← hm1] at this
                      simp [CS.new, this]
                    have hse : (CS.all A d s (ps.take (k + 1))).2 = (CS.copied A d (CS.all A d s (ps.take k)).2 ps[k]).2 := by rw [hsn]; rfl
                    obtain ⟨q, hq⟩ : ∃ q, ps[k] = q := ⟨_, rfl⟩
                    rw [hq] at hqh hks hν hse
                    generalize (CS.all A d s (ps.take k)).2 = sk at hC hIk hjk hks hν hse hjke hpe hsn
                    have hx := (HR.out.2.2.1.grew HB.out.2.1).kept hF (fun b hb e => by
                      have := HR.out.2.2.1.lt b hb
                      have := HB.out.2.1.size
                      rcases e with e | e
                      · have := HB.out.2.2.1 b e; omega
                      · omega)
                    have hdis : ∀ b ∈ f1, b ∉ fr ∧ b < wo.heap.size := fun b hb => by
                      have h1 := HR.out.2.2.1.lt b hb
                      have h2 := HB.out.2.1.size
                      exact ⟨fun e => by have := HB.out.2.2.1 b e; omega, by omega⟩
                    have HS0 := hid hC
                    have HI := hid (And.intro hA (And.intro hIk (And.intro hjk (And.intro hx (And.intro hF.size (And.intro hdis hqh))))))
                    have HV := hid (And.intro hν (And.intro hse hF))
                    have hSR : ∀ a, CSt cb xb tb d A ((A.final d roots).new A d) j k fr wo.heap.size ob (.slice (some ⟨g, 0, none⟩) n c) sk q a a := fun a => CSt.grew (Fr.refl _ a)
                    clear hC hIk hx hdis hqh hν hse hF hsn hpe hq hjke
                    go_wp2
                    refine wp_region_facts 15 (CSt cb xb tb d A ((A.final d roots).new A d) j k fr wo.heap.size ob (.slice (some ⟨g, 0, none⟩) n c) sk q) [(82, Ex (.pointer (some ⟨ob, 0, none⟩))), (83, Ex (.pointer (some ⟨ob, 0, none⟩))), (84, Ex (.pointer (some ⟨ob, 2, none⟩))), (85, Ex (.slice (some ⟨g, 0, none⟩) n c)), (86, Ex (Kv k)), (87, Ex (.pointer (some ⟨cb, 0, none⟩))), (88, Ex (.pointer (some ⟨ob, 0, none⟩))), (89, Ex (.pointer (some ⟨ob, 0, none⟩))), (90, Ex (.pointer (some ⟨ob, 2, none⟩))), (91, Ex (.slice (some ⟨g, 0, none⟩) n c)), (92, Ex (Kv k)), (93, Ex (.pointer (some ⟨g, k, none⟩))), (94, Ex (Kv q)), (95, FCop cb xb tb d A ((A.final d roots).new A d) j k fr wo.heap.size ob (.slice (some ⟨g, 0, none⟩) n c) sk q), (96, Ex (.pointer (some ⟨g, k, none⟩)))] (by kernel_rfl) (by kernel_rfl) (by rfl) (by rfl)
                      (fun a => CSt.grew (Fr.refl _ a)) (fun a b c h k => h.trans k) (CSt.grew (Fr.refl _ _).drew)
                      (Stays.all ⟨Ex.stays _, Ex.stays _, Ex.stays _, Ex.stays _, Ex.stays _, Ex.stays _, Ex.stays _, Ex.stays _, Ex.stays _, Ex.stays _, Ex.stays _, Ex.stays _, Ex.stays _, FCop.stays, Ex.stays _, trivial⟩) ?_ ?_
                    · go_light
                      refine OpGoals.cons (OpGoal.plain rfl ?_) (OpGoals.cons (OpGoal.plain rfl ?_) (OpGoals.cons (OpGoal.plain rfl ?_) (OpGoals.cons (OpGoal.plain rfl ?_) (OpGoals.cons (OpGoal.plain rfl ?_) (OpGoals.cons (OpGoal.plain rfl ?_) (OpGoals.cons (OpGoal.plain rfl ?_) (OpGoals.cons (OpGoal.plain rfl ?_) (OpGoals.cons (OpGoal.plain rfl ?_) (OpGoals.cons (OpGoal.plain rfl ?_) (OpGoals.cons (OpGoal.plain rfl ?_) (OpGoals.cons (OpGoal.plain rfl ?_) (OpGoals.cons (OpGoal.plain rfl ?_) (OpGoals.cons (OpGoal.plain rfl ?_) (OpGoals.cons (OpGoal.plain rfl ?_) OpGoals.none))))))))))))))
                      all_goals (intro a' w' hS hR; simp [Rd, Op.operands, Call.operands, Fk, Ex] at hR)
                      all_goals (have h2' := (hS.cells HS0.out HI.out.2.2.1 HI.out.2.1 hks).1)
                      all_goals (have hq' := (hS.cells HS0.out HI.out.2.2.1 HI.out.2.1 hks).2)
                      all_goals try (simp [Yields, execOp, Act.eval, hR, h2', hq', hkn, hSR, go_sem, Fk, Ex]; done)
                      · simp [Yields, Act.eval, hR, go_sem, Fk, Ex]
                        refine (hS.copied HS0.out HI.out.1 hd HI.out.2.1 HI.out.2.2.1 HI.out.2.2.2.1 HI.out.2.2.2.2.1 HI.out.2.2.2.2.2.1 HI.out.2.2.2.2.2.2).mono ?_
                        rintro e w2 ⟨rfl, h1, h2⟩
                        exact ⟨_, rfl, h1, h2⟩
                    · intro w6 hS
                      rintro _ rfl _ rfl _ rfl _ rfl _ rfl _ rfl _ rfl _ rfl _ rfl _ rfl _ rfl _ rfl _ rfl v95 f95 _ rfl
                      refine Then.nil ?_
                      obtain ⟨rfl, hC1⟩ := f95
                      obtain ⟨hjk', hjke'⟩ := copied_at (A := A) (d := d) (q := q) hjk
                      obtain ⟨hk', hke⟩ := hks
                      have hk1 : k < (A.ptrs (CS.copied A d sk q).2.ord[j].1).length := by rw [hjke']; exact hk'
                      have hke1 : (A.ptrs (CS.copied A d sk q).2.ord[j].1)[k] = q := by simp only [hjke']; exact hke
                      obtain ⟨-, m1, m2, -, -⟩ := hC1.cells hjk' hk1
                      obtain ⟨hC2, hF2⟩ := hC1.store hjk' hk1
                      rw [hke1] at m1 hC2 hF2
                      rw [← HV.out.1] at hC2 hF2
                      have hfr := (HV.out.2.2.trans hS.fr (fun _ _ e => e)).trans hF2 (fun _ _ e => e)
                      have HREL := hid (show CC cb xb tb d A ((A.final d roots).new A d) j (k + 1) fr wo.heap.size ob (.slice (some ⟨g, 0, none⟩) n c) (CS.all A d s (ps.take (k + 1))).2 (w6.setCell ⟨g, k, none⟩ (Kv (CS.copied A d sk q).1)) ∧ Fr (fun b => b ∈ fr ∨ wo.heap.size ≤ b) wo (w6.setCell ⟨g, k, none⟩ (Kv (CS.copied A d sk q).1)) from by
                        rw [HV.out.2.1]; exact ⟨hC2, hfr⟩)
                      generalize (CS.copied A d sk q).1 = z at *
                      clear hC1 hC2 hF2 hfr hjk' hjke' hk' hke hk1 hke1 hS HS0 HI HV hSR hpv
                      go_wp2
                      go_roundw
                      case rel => exact ⟨k + 1, by omega, by go_num, HREL.out⟩
                      case measure => simp [intOf]; omega
                  · have htk : ps.take k = ps := List.take_of_length_le (by rw [HB.out.2.2.2.2.2.2.2]; omega)
                    rw [htk] at hC
                    obtain ⟨P', xs', fr', q1, q2, hb', _⟩ := hC
                    obtain ⟨hjk2, hje2⟩ := all_at (A := A) (d := d) ps hjo
                    have hL := q2.next hjk2 (by rw [hje2, HB.out.2.2.2.2.2.2.1, HB.out.2.2.2.2.2.2.2]; omega)
                    have r3 := HB.out.2.1
                    have r4 := HB.out.2.2.1
                    have r5 := HB.out.2.2.2.1
                    have hsw := r3.size
                    have hne : ∀ g, (Value.slice ta tl tc).ownBlock = some g → ¬ (g ∈ fr ∨ wo.heap.size ≤ g) := fun g hg e => e.elim (r5.own g hg).2 (fun e => by have := r5.ow.lt hg; omega)
                    have HREL := hid (show RRel3 w A cb xb tb d ((A.final d roots).new A d) roots (.slice ta tl tc) (j + 1) wr from
                      ⟨_, P', xs', fr', HB.out.2.2.2.2.1, q1, hL, grew_step r3 hF (fun b e => e.elim (r4 b) (fun e => by omega)), fun b hb => (hb' b hb).elim (r4 b) (fun e => by omega),
                        r5.ow.kept hF hne, fun g hg => ⟨(r5.own g hg).1, fun hm => hne g hg (hb' g hm)⟩⟩)
                    clear q1 q2 hb' hL r3 r4 r5 hsw hne htk hF hjk2 hje2 HB hIk hjk hjke
                    go_wp2
                    go_roundw
                    case rel => exact ⟨j + 1, by omega, by go_num, HREL.out⟩
                    case measure => simp [intOf]; omega
              · have hp0 : ps = [] := List.eq_nil_of_length_eq_zero (by omega)
                subst hp0
                obtain ⟨pa, pc, epv, _, _⟩ := x2.shape
                rw [epv] at hpv
                simp only [List.length_nil] at hpv
                have hL := r2.next hjo (by rw [hps]; simp)
                obtain ⟨wo, rfl⟩ : ∃ q : World, q = wr := ⟨_, rfl⟩
                have HREL := hid (show RRel3 w A cb xb tb d ((A.final d roots).new A d) roots (.slice ta tl tc) (j + 1) wo from ⟨s, P, xs, fr, hnx, r1, hL, r3, r4, r5⟩)
                clear ri r1 r2 r3 r4 r5 t1 t2 t3 t4 t5 t6 e1 e2 x1 x2 hnx hlat epv hob hpsh hL hps hz hps60
                go_wp2
                go_loopw [15] (fun i wx => i = .int .i64 0 ∧ wx = wo) (fun _ _ => 0)
                case atStart => exact ⟨rfl, rfl⟩
                case round =>
                  obtain ⟨rfl, hwx⟩ := hrel
                  replace hwx := hwx.symm
                  subst hwx
                  clear c1 c2 hcl
                  go_wp2
                  go_roundw
                  case rel => exact ⟨j + 1, by omega, by go_num, HREL.out⟩
                  case measure => simp [intOf]; omega
            · obtain ⟨hfin, _⟩ := ri.finish hA (by omega)
              subst hfin
              have hL := r2.done (by omega)
              rw [hL] at t1
              have HPOST := hid (show RCollectPost w A d roots (.returned (.tuple #[.pointer (some ⟨tb, 0, none⟩), .slice ta tl tc, .bool true])) wr from
                ⟨tb, ft, _, rfl, ⟨_, _, t1⟩, r5.ow, r3, fun b hb => r4 b (by rw [t5]; simp [hb]), fun g hg => ⟨(r5.own g hg).1, fun hm => (r5.own g hg).2 (by rw [t5]; simp [hm])⟩⟩)
              clear ri r1 r2 r3 r4 r5 t1 t2 t3 t4 t5 t6 hL hlat HR
              go_wp2
              go_ret3
              exact HPOST.out
end Go.Proofs.Ytjhdnbediipibaa
