import Derived.Test.YtjhdnbediipibaaE2
/-! The document's heap: shape, Put's walk. -/
namespace Go.Proofs.Ytjhdnbediipibaa
open Go.RowKit

set_option maxHeartbeats 1000000 in
theorem rshape_walk (t : Int) (a1 a2 : Option Addr) (p c1 n c2 : Nat) (w : World) (r : Bool)
    (H : (t = 2 ∧ (if p = 2 then r = decide (n = 0) else r = false)) ∨
      (t = 5 ∧ (if p = 1 then r = decide (n = 0) else r = false)) ∨
      (t = 6 ∧ r = false ∧ ¬ (p = 1 ∧ n = 1)) ∨
      (t = 6 ∧ p = 1 ∧ n = 1 ∧ ∃ g z, a2 = some ⟨g, 0, none⟩ ∧ w.cell? ⟨g, 0, none⟩ = some (Kv z) ∧ r = decide (z = 0 ∨ z = 1)) ∨
      (¬ t = 2 ∧ ¬ t = 5 ∧ ¬ t = 6 ∧ ((r = false ∧ (t < 1 ∨ 7 < t ∨ 60 < (p : Int) ∨ 60 < (n : Int))) ∨ (1 ≤ t ∧ t ≤ 7 ∧ (p : Int) ≤ 60 ∧ (n : Int) ≤ 60 ∧ r = true)))) :
    Calls Try.prog 68 #[.int .i64 t, .slice a1 p c1, .slice a2 n c2] w fun e w' => e = .returned (.bool r) ∧ w = w' := by
  rcases H with ⟨ht, hr⟩ | ⟨ht, hr⟩ | ⟨ht, hr, hn⟩ | ⟨ht, hp, hn, g, z, ha, hc, hr⟩ | ⟨h5, h6, h7, H⟩
  · subst ht
    by_cases hp : p = 2
    · subst hp
      rw [if_pos rfl] at hr
      by_cases hn : n = 0
      · subst hn
        simp at hr; subst hr
        go_enter Try.func68, Try.ntmps68
        go_wp2
        go_ret
        exact ⟨rfl, rfl⟩
      · have e : ((n : Int) == 0) = false := by simpa using hn
        simp only [hn, decide_false] at hr; subst hr
        go_enter Try.func68, Try.ntmps68
        go_wp2
        go_ret
        exact ⟨rfl, rfl⟩
    · rw [if_neg hp] at hr; subst hr
      have e : ((p : Int) == 2) = false := by simp; omega
      clear hp
      go_enter Try.func68, Try.ntmps68
      go_wp2
      go_ret
      exact ⟨rfl, rfl⟩
  · subst ht
    by_cases hp : p = 1
    · subst hp
      rw [if_pos rfl] at hr
      by_cases hn : n = 0
      · subst hn
        simp at hr; subst hr
        go_enter Try.func68, Try.ntmps68
        go_wp2
        go_ret
        exact ⟨rfl, rfl⟩
      · have e : ((n : Int) == 0) = false := by simpa using hn
        simp only [hn, decide_false] at hr; subst hr
        go_enter Try.func68, Try.ntmps68
        go_wp2
        go_ret
        exact ⟨rfl, rfl⟩
    · rw [if_neg hp] at hr; subst hr
      have e : ((p : Int) == 1) = false := by simp; omega
      clear hp
      go_enter Try.func68, Try.ntmps68
      go_wp2
      go_ret
      exact ⟨rfl, rfl⟩
  · subst ht hr
    by_cases hp : p = 1
    · subst hp
      have e : ((n : Int) == 1) = false := by simp; omega
      clear hn
      go_enter Try.func68, Try.ntmps68
      go_wp2
      go_ret
      exact ⟨rfl, rfl⟩
    · have e : ((p : Int) == 1) = false := by simp; omega
      clear hp hn
      go_enter Try.func68, Try.ntmps68
      go_wp2
      go_ret
      exact ⟨rfl, rfl⟩
  · subst ht hp hn ha
    by_cases hz : z = 0
    · subst hz
      simp at hr; subst hr
      go_enter Try.func68, Try.ntmps68
      go_wp2
      go_ret
      exact ⟨rfl, rfl⟩
    · have e : (z == 0) = false := by simpa using hz
      have e1 : r = (z == 1) := by rw [hr, Bool.eq_iff_iff]; simp [hz]
      clear hr hz
      subst e1
      go_enter Try.func68, Try.ntmps68
      go_wp2
      go_ret
      exact ⟨rfl, rfl⟩
  · have e5 : (t == 2) = false := by simpa using h5
    have e6 : (t == 5) = false := by simpa using h6
    have e7 : (t == 6) = false := by simpa using h7
    clear h5 h6 h7
    rcases H with ⟨hr, H⟩ | ⟨g1, g2, g3, g4, hr⟩
    · subst hr
      by_cases h0 : 1 ≤ t
      · by_cases h1 : t ≤ 7
        · by_cases h2 : (p : Int) ≤ 60
          · have h3 : ¬ (n : Int) ≤ 60 := by omega
            clear H
            go_enter Try.func68, Try.ntmps68
            go_wp2
            go_ret
            exact ⟨rfl, rfl⟩
          · clear H
            go_enter Try.func68, Try.ntmps68
            go_wp2
            go_ret
            exact ⟨rfl, rfl⟩
        · clear H
          go_enter Try.func68, Try.ntmps68
          go_wp2
          go_ret
          exact ⟨rfl, rfl⟩
      · clear H
        go_enter Try.func68, Try.ntmps68
        go_wp2
        go_ret
        exact ⟨rfl, rfl⟩
    · subst hr
      go_enter Try.func68, Try.ntmps68
      go_wp2
      go_ret
      exact ⟨rfl, rfl⟩

theorem rshape_any {w : World} {v u : Value} {l m : List Int} (t : Int) (hv : Ow w v l) (hu : Ow w u m) :
    Calls Try.prog 68 #[.int .i64 t, v, u] w fun e w' => e = .returned (.bool (decide (ShapeOk t l m))) ∧ w = w' := by
  obtain ⟨a1, c1, rfl, _, _⟩ := hv.shape
  obtain ⟨a2, c2, rfl, _, _⟩ := hu.shape
  refine rshape_walk t a1 a2 l.length c1 m.length c2 w _ ?_
  by_cases e2 : t = 2
  · refine .inl ⟨e2, ?_⟩
    split
    · rename_i hl
      rw [decide_eq_decide]; unfold ShapeOk; omega
    · exact shape_false (by unfold ShapeOk; omega)
  by_cases e5 : t = 5
  · refine .inr (.inl ⟨e5, ?_⟩)
    split
    · rw [decide_eq_decide]; unfold ShapeOk; omega
    · exact shape_false (by unfold ShapeOk; omega)
  by_cases e6 : t = 6
  · by_cases hpn : l.length = 1 ∧ m.length = 1
    · refine .inr (.inr (.inr (.inl ⟨e6, hpn.1, hpn.2, ?_⟩)))
      obtain ⟨g, cap, he, _, _, _, hc⟩ := hu.at (by omega)
      cases he
      have hc0 := (hc 0 (by omega)).1
      refine ⟨g, m[0]'(by omega), rfl, hc0, ?_⟩
      obtain ⟨z, rfl⟩ : ∃ z, m = [z] := by
        match m, hpn.2 with
        | [z], _ => exact ⟨z, rfl⟩
      rw [decide_eq_decide]; unfold ShapeOk
      exact ⟨fun h => by simpa using (h.2.2.2.2.2.2 e6).2.2, fun h => ⟨by omega, by omega, by omega, by simp, fun e => by omega, fun e => by omega, fun _ => ⟨hpn.1, rfl, by simpa using h⟩⟩⟩
    · exact .inr (.inr (.inl ⟨e6, shape_false (by unfold ShapeOk; omega), hpn⟩))
  refine .inr (.inr (.inr (.inr ⟨e2, e5, e6, ?_⟩)))
  by_cases h : 1 ≤ t ∧ t ≤ 7 ∧ (l.length : Int) ≤ 60 ∧ (m.length : Int) ≤ 60
  · exact .inr ⟨h.1, h.2.1, h.2.2.1, h.2.2.2, shape_true (by unfold ShapeOk; omega)⟩
  · exact .inl ⟨shape_false (by unfold ShapeOk; omega), by omega⟩

/-- what Put leaves -/
def PutPost (w : World) (xb : Nat) (A : AH) (fp : List Nat) (t : Int) (p n : List Int) (e : Ending) (w' : World) : Prop :=
  e = .returned (Kv A.used) ∧ ∃ fp', RH w' xb (A.add t p n) fp' ∧ Fr (· ∈ fp) w w' ∧ ∀ b ∈ fp', b ∈ fp ∨ w.heap.size ≤ b

set_option maxHeartbeats 2000000 in
set_option maxRecDepth 100000 in
theorem rput_any {w : World} {xb : Nat} {A : AH} {fp : List Nat} (h : RH w xb A fp) (hlen : A.objs.length ≤ 1000000) (hu0 : 0 ≤ A.used) (hu1 : A.used ≤ 1000000000) (t : Int) {pv nv : Value} {p n : List Int} (hp : Ow w pv p) (hn : Ow w nv n)
    (hpl : p.length ≤ 1000) (hnl : n.length ≤ 1000) :
    Calls Try.prog 69 #[.pointer (some ⟨xb, 0, none⟩), .int .i64 t, pv, nv] w (PutPost w xb A fp t p n) := by
  obtain ⟨lv, xs, h⟩ := h
  obtain ⟨_, hc1, hc2⟩ := h.cells
  rw [← h.len] at hlen
  obtain ⟨pa, pc, rfl, _, _⟩ := hp.shape
  obtain ⟨na, nc, rfl, _, _⟩ := hn.shape
  have HX := hid h
  have HP := hid hp
  have HN := hid hn
  clear h hp hn
  go_enter Try.func69, Try.ntmps69
  go_wp2
  refine wp_region_factsI 14 IPut Grew [(10, Ex (.pointer (some ⟨xb, 0, none⟩))), (11, Ex (.pointer (some ⟨xb, 0, none⟩))), (12, Ex (.pointer (some ⟨xb, 1, none⟩))), (13, Ex (Kv A.used)), (14, Ex (Kv t)), (15, FZero w.heap.size), (16, Ex (.slice pa p.length pc)), (17, FMine w.heap.size p), (18, FZero w.heap.size), (19, Ex (.slice na n.length nc)), (20, FMine w.heap.size n), (21, FObj w.heap.size A.used t p n), (22, FBox w.heap.size A.used t p n), (9, FBox w.heap.size A.used t p n)] (by kernel_rfl) (by kernel_rfl) (by rfl) (by rfl)
    (fun a => Fr.refl _ a) (fun a b c h k => h.trans k (fun _ _ f => f)) (Fr.refl _ _).drew
    (Stays.all ⟨Ex.stays _, Ex.stays _, Ex.stays _, Ex.stays _, Ex.stays _, FZero.stays _, Ex.stays _, FMine.stays _ _, FZero.stays _, Ex.stays _, FMine.stays _ _, FObj.stays _ _ _ _ _, FBox.stays _ _ _ _ _, FBox.stays _ _ _ _ _, trivial⟩) ?_ ?_ ?_
  · go_light
    refine OpGoalsI.cons ?_ (OpGoalsI.cons ?_ (OpGoalsI.cons ?_ (OpGoalsI.cons ?_ (OpGoalsI.cons ?_ (OpGoalsI.cons ?_ (OpGoalsI.cons ?_ (OpGoalsI.cons ?_ (OpGoalsI.cons ?_ (OpGoalsI.cons ?_ (OpGoalsI.cons ?_ (OpGoalsI.cons ?_ (OpGoalsI.cons ?_ (OpGoalsI.cons ?_ OpGoalsI.none)))))))))))))
    all_goals (intro a' w' hS hI hR; simp [Rd, Op.operands, Call.operands, Fk, Ex] at hR)
    all_goals (show Yields _ _ _ _ _)
    all_goals (have hc := hS.cell hc1 (fun f => f))
    all_goals (have hIo := fun d v (h1 : d ≠ 15) (h2 : d ≠ 17) (h3 : d ≠ 18) (h4 : d ≠ 20) => hI.other (Fr.refl _ w') (d := d) v h1 h2 h3 h4)
    all_goals try (simp [Yields, execOp, Act.eval, hR, hc, go_sem, Fk, Ex, Fr.refl]; exact hIo _ _ (by decide) (by decide) (by decide) (by decide))
    · simp [Yields, execOp, Act.eval, go_sem, Fk]
      exact ⟨⟨_, rfl, hS.size, heap_alloc_new w' _⟩, Grew.alloc _ _, hI.p15 (Grew.alloc _ _) (fun g hg => by simp [Value.ownBlock] at hg; simp; omega)⟩
    · obtain ⟨⟨g, e15, g15, c15⟩, e16⟩ := hR
      have e15' : a'.tmps.getD 15 undef = .slice (some ⟨g, 0, none⟩) 0 0 := by rw [Array.getD_eq_getD_getElem?]; exact e15
      obtain ⟨v', w2, hr, ho, hg, hf⟩ := app_zero c15 (HP.out.kept hS (fun _ _ f => f)) (by omega) 22
      have hl := lt_of_get c15
      have hsz := hg.size
      have hsz0 := hS.size
      refine Yields.app rfl (v := .slice (some ⟨g, 0, none⟩) 0 0) (u := .slice pa p.length pc) e15' (by rw [← e16]; simp [Act.eval]) hr ⟨fun d hd => ?_, hg, hI.p17 hg (fun h hh => ?_)⟩
      · cases hd
        obtain ⟨x, c, rfl, _⟩ := ho.shape
        simp [Fk]
        exact ⟨⟨x, c, rfl⟩, ho, fun h hh => by rcases hf h hh with e | e <;> omega⟩
      · refine ⟨?_, ho.lt hh⟩
        rcases hf h hh with e | e
        · subst e; rw [e15']; exact .inl rfl
        · exact .inr e
    · simp [Yields, execOp, Act.eval, go_sem, Fk]
      exact ⟨⟨_, rfl, hS.size, heap_alloc_new w' _⟩, Grew.alloc _ _, hI.p18 (Grew.alloc _ _) (fun g hg => by simp [Value.ownBlock] at hg; simp; omega)⟩
    · obtain ⟨⟨g, e15, g15, c15⟩, e16⟩ := hR
      have e15' : a'.tmps.getD 18 undef = .slice (some ⟨g, 0, none⟩) 0 0 := by rw [Array.getD_eq_getD_getElem?]; exact e15
      obtain ⟨v', w2, hr, ho, hg, hf⟩ := app_zero c15 (HN.out.kept hS (fun _ _ f => f)) (by omega) 22
      have hl := lt_of_get c15
      have hsz := hg.size
      have hsz0 := hS.size
      refine Yields.app rfl (v := .slice (some ⟨g, 0, none⟩) 0 0) (u := .slice na n.length nc) e15' (by rw [← e16]; simp [Act.eval]) hr ⟨fun d hd => ?_, hg, hI.p20 hg (fun h hh => ?_)⟩
      · cases hd
        obtain ⟨x, c, rfl, _⟩ := ho.shape
        simp [Fk]
        exact ⟨⟨x, c, rfl⟩, ho, fun h hh => by rcases hf h hh with e | e <;> omega⟩
      · refine ⟨?_, ho.lt hh⟩
        rcases hf h hh with e | e
        · subst e; rw [e15']; exact .inl rfl
        · exact .inr e
    · obtain ⟨e13, e14, f17, f20⟩ := hR
      have hsep := hI.2.2.2.2
      rw [Array.getD_eq_getD_getElem?, Array.getD_eq_getD_getElem?] at hsep
      obtain ⟨x1, c1, q1⟩ := f17.1
      obtain ⟨x2, c2, q2⟩ := f20.1
      rw [q1] at f17 hsep
      rw [q2] at f20 hsep
      simp [Yields, execOp, Act.eval, e13, e14, q1, q2, go_sem, Fk, Fr.refl]
      exact ⟨⟨_, _, rfl, f17, f20, hsep⟩, hIo _ _ (by decide) (by decide) (by decide) (by decide)⟩
    · obtain ⟨u1, u2, e21, f1, f2, hs⟩ := hR
      simp [Yields, execOp, Act.eval, e21, go_sem, Fk]
      exact ⟨FObj.box hS.size f1 f2 hs, Grew.alloc _ _, hI.other (Grew.alloc _ _) _ (by decide) (by decide) (by decide) (by decide)⟩
  · refine ⟨rfl, ?_, ?_, ?_, ?_⟩ <;> refine ⟨fun g hg => ?_, fun g hg => ?_, fun g hg => ?_⟩ <;> exact absurd hg (by simp [undef, Value.ownBlock])
  · intro w1 hS
    rintro _ rfl _ rfl _ rfl _ rfl _ rfl v15 _ _ rfl v17 _ v18 _ _ rfl v20 _ v21 _ v22 _ v9 ⟨x, rfl, hx, hxb, hxn, hxa, hxo⟩
    refine Then.nil (K := fun a w => IPut a w → _) ?_
    intro _
    have hX := HX.out
    have g1 := Grew.alloc w1 (.cells #[x.ptr] 86)
    have hS2 : Grew w (w1.alloc (.cells #[x.ptr] 86)) := hS.trans g1 (fun _ _ f => f)
    obtain ⟨lv', w2, happ, ho, hF, hl⟩ := app_rw E86 (hX.row.kept hS2 (fun _ _ f => f)) (Rw.one 86 w1 x.ptr) (by intro y hy; rw [List.mem_singleton] at hy; subst hy; rfl) (by simp; omega) (by simp [maxLen]; omega) 82
    obtain ⟨la2, lc2, hv2, _, _⟩ := ho.shape
    rw [show (List.map PO.ptr xs ++ [x.ptr]).length = xs.length + 1 from by simp] at hv2
    subst hv2
    obtain ⟨fp', k1, k2, k3⟩ := hX.added hS2 x (hx.kept g1 (fun _ _ f => f)) hxb hxn hxa ho hF hl (A.used + osz p n)
    have hne : lv.ownBlock ≠ some xb := by
      intro e; have := hX.nodup; rw [hX.blocks] at this
      simp only [List.nodup_cons, List.mem_append, Option.mem_toList] at this
      exact this.1 (.inl e)
    have hW2 := hF.get (hS2.get hX.top (fun f => f)) hne
    have c1 : w2.cell? ⟨xb, 1, none⟩ = some (Kv A.used) := by rw [cell_of_get hW2]; rfl
    have c2 : w2.cell? ⟨xb, 2, none⟩ = some lv := by rw [cell_of_get hW2]; rfl
    have z1 := frozen_of_get hW2 1
    have z2 := frozen_of_get hW2 2
    have hxob := hxb x.ob (by simp [PO.blocks])
    have hxlt := hX.blocks ▸ (show RH w xb A fp from ⟨lv, xs, hX⟩).lt
    have hlvo : lv.ownBlock ≠ some x.ob := fun e => by have := hxlt x.ob (by simp [e]); omega
    have hobn : x.ob ≠ xb := fun e => by have := hxlt xb (by simp); omega
    have hlc := cell_of_get (hF.get (g1.get hx.1 (fun f => f)) hlvo) 0
    simp only [hxa] at hlc
    replace hlc : w2.cell? ⟨x.ob, 0, none⟩ = some (Kv A.used) := hlc
    have hobn' : ¬ xb = x.ob := fun e => hobn e.symm
    have hPOST := hid (show PutPost w xb A fp t p n (.returned (Kv A.used)) _ from ⟨rfl, fp', ⟨_, _, by rw [hxo] at k1; exact k1⟩, k2, k3⟩)
    have hmax : ∀ w0 : World, (Builtin.max_ #[3, 3] 3 #[.int .i64 2, .int .i64 (1 + ↑p.length + ↑n.length)]).run Try.prog w0 = .ok (.int .i64 (osz p n)) w0 := by
      intro w0
      have hmd : max (1 + (p.length : Int) + n.length) 2 = if 1 + (p.length : Int) + n.length > 2 then 1 + (p.length : Int) + n.length else 2 := by
        rw [Int.max_def]; split <;> split <;> omega
      simp [Builtin.max_, Builtin.max2, osz, hmd]
    have hosz : 2 ≤ osz p n ∧ osz p n ≤ 2001 := by unfold osz; omega
    obtain ⟨ho1, ho2⟩ := hosz
    have hcc1 := (hS.cell hc1 (fun f => f))
    have hcc2 := (hS.cell hc2 (fun f => f))
    have hcc3 := (hS2.cell hc2 (fun f => f))
    have HAPP := hid happ
    simp only [PO.ptr] at HAPP hlc g1 hcc3 ⊢
    clear hX happ k1 k2 k3 hx hxb hxn hxa hxo ho hF hl hW2 hne hxlt hlvo hxob HX HP HN hS hS2 hc1 hc2 g1
    go_wp2_with (at_builtin; first | refine wpList_app rfl rfl rfl rfl HAPP.out ?_)
    go_ret
    exact hPOST.out
end Go.Proofs.Ytjhdnbediipibaa
