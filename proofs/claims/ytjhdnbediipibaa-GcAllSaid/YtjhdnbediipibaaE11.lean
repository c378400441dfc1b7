import Derived.Test.YtjhdnbediipibaaR5
/-! The document's copier: where an address goes. -/
namespace Go.Proofs.Ytjhdnbediipibaa
open Go.RowKit

/-- the document's copier, and the heap that it lays: fr: their blocks -/
def RC (w : World) (cb xb tb d : Nat) (s : CS) (T : AH) (xs : List PO) (fr : List Nat) : Prop :=
  ∃ ft lv ov nv, RX w tb T ft lv xs ∧ w.heap[cb]? = some (.cells #[.pointer (some ⟨xb, 0, none⟩), .pointer (some ⟨tb, 0, none⟩), Kv d, ov, nv] 92 (0, 0)) ∧
    Ow w ov (s.ord.map (·.1)) ∧ Ow w nv (s.ord.map (·.2)) ∧ fr = cb :: (ov.ownBlock.toList ++ (nv.ownBlock.toList ++ ft)) ∧ fr.Nodup

theorem RX.lt {w : World} {xb : Nat} {A : AH} {fp : List Nat} {lv : Value} {xs : List PO} (h : RX w xb A fp lv xs) : ∀ b ∈ fp, b < w.heap.size := RH.lt ⟨lv, xs, h⟩
theorem RC.lt {w : World} {cb xb tb d : Nat} {s : CS} {T : AH} {xs : List PO} {fr : List Nat} (h : RC w cb xb tb d s T xs fr) : ∀ b ∈ fr, b < w.heap.size := by
  obtain ⟨ft, lv, ov, nv, h1, h2, h3, h4, rfl, _⟩ := h
  intro b hb
  simp only [List.mem_cons, List.mem_append, Option.mem_toList] at hb
  rcases hb with rfl | hb | hb | hb
  · exact lt_of_get h2
  · exact h3.lt hb
  · exact h4.lt hb
  · exact h1.lt b hb
theorem RC.kept {w w' : World} {F : Nat → Prop} {cb xb tb d : Nat} {s : CS} {T : AH} {xs : List PO} {fr : List Nat} (h : RC w cb xb tb d s T xs fr) (k : Fr F w w') (hF : ∀ b ∈ fr, ¬ F b) : RC w' cb xb tb d s T xs fr := by
  obtain ⟨ft, lv, ov, nv, h1, h2, h3, h4, rfl, h6⟩ := h
  exact ⟨ft, lv, ov, nv, h1.kept k (fun b hb => hF b (by simp [hb])), k.get h2 (hF _ (by simp)), h3.kept k (fun g hg => hF g (by simp [hg])), h4.kept k (fun g hg => hF g (by simp [hg])), rfl, h6⟩
theorem RC.grew {w w' : World} {cb xb tb d : Nat} {s : CS} {T : AH} {xs : List PO} {fr : List Nat} (h : RC w cb xb tb d s T xs fr) (k : Grew w w') : RC w' cb xb tb d s T xs fr := h.kept k (fun _ _ f => f)

/-- what copied leaves -/
def RCopiedPost (w : World) (A : AH) (cb xb tb d : Nat) (s : CS) (T : AH) (xs : List PO) (k : Int) (fr : List Nat) (e : Ending) (w' : World) : Prop :=
  e = .returned (Kv (s.copied A d k).1) ∧ ∃ fr' ys, RC w' cb xb tb d (s.copied A d k).2 (if lookI (A.short d k) s.ord = none then T.add (A.tag (A.short d k)) (A.ptrs (A.short d k)) (A.nums (A.short d k)) else T) (xs ++ ys) fr' ∧
    Fr (· ∈ fr) w w' ∧ ∀ b ∈ fr', b ∈ fr ∨ w.heap.size ≤ b

theorem lookI_at {k : Int} : ∀ {l : List (Int × Int)} {i : Nat} (h : i < l.length), (∀ j (hj : j < l.length), j < i → l[j].1 ≠ k) → l[i].1 = k → lookI k l = some l[i].2
  | [], i, h, _, _ => by simp at h
  | p :: r, 0, _, _, e => by simp only [List.getElem_cons_zero] at e ⊢; unfold lookI; rw [if_pos e.symm]
  | p :: r, i + 1, h, hn, e => by
    have h0 := hn 0 (by simp) (by omega)
    simp only [List.getElem_cons_zero] at h0
    unfold lookI
    rw [if_neg (fun q => h0 q.symm)]
    simp only [List.getElem_cons_succ] at e ⊢
    exact lookI_at (by simpa using h) (fun j hj hji => by have := hn (j + 1) (by simpa using hj) (by omega); simpa using this) e
theorem lookI_no {k : Int} {l : List (Int × Int)} (h : ∀ j (hj : j < l.length), l[j].1 ≠ k) : lookI k l = none := by
  rw [lookI_none]
  intro hm
  obtain ⟨p, hp, e⟩ := List.mem_map.1 hm
  obtain ⟨j, hj, rfl⟩ := List.mem_iff_getElem.1 hp
  exact h j hj e

/-- two rows in two fields, each appended to, each stored: p tells how far -/
structure Ap (w3 : World) (cb : Nat) (X Y Z ov nv : Value) (l1 l2 : List Int) (a n : Int) (p : Nat) (x y : Value) (w : World) : Prop where
  fr : Fr (fun b => ov.ownBlock = some b ∨ nv.ownBlock = some b ∨ b = cb) w3 w
  cbc : w.heap[cb]? = some (.cells #[X, Y, Z, if 3 ≤ p then x else ov, if 4 ≤ p then y else nv] 92 (0, 0))
  o1 : if 1 ≤ p then Ow w x (l1 ++ [a]) ∧ (∀ g, x.ownBlock = some g → ov.ownBlock = some g ∨ w3.heap.size ≤ g) else Ow w ov l1
  o2 : if 2 ≤ p then Ow w y (l2 ++ [n]) ∧ (∀ g, y.ownBlock = some g → nv.ownBlock = some g ∨ w3.heap.size ≤ g) ∧ (∀ g, x.ownBlock = some g → y.ownBlock ≠ some g) else Ow w nv l2

/-- what lies apart ahead of it -/
structure ApH (w3 : World) (cb : Nat) (ov nv : Value) : Prop where
  ne : ∀ g, ov.ownBlock = some g → nv.ownBlock ≠ some g
  o : ov.ownBlock ≠ some cb
  n : nv.ownBlock ≠ some cb
  lo : ∀ g, ov.ownBlock = some g → g < w3.heap.size
  ln : ∀ g, nv.ownBlock = some g → g < w3.heap.size
  lc : cb < w3.heap.size

section
variable {w3 : World} {cb : Nat} {X Y Z ov nv : Value} {l1 l2 : List Int} {a n : Int} {p : Nat} {x y : Value} {w w' : World}

theorem Ap.grew (h : Ap w3 cb X Y Z ov nv l1 l2 a n p x y w) (g : Grew w w') : Ap w3 cb X Y Z ov nv l1 l2 a n p x y w' := by
  refine ⟨h.fr.trans g (fun _ _ f => f.elim), g.get h.cbc (fun f => f), ?_, ?_⟩
  · have := h.o1
    split at this
    · rename_i hp; rw [if_pos hp]; exact ⟨this.1.kept g (fun _ _ f => f), this.2⟩
    · rename_i hp; rw [if_neg hp]; exact this.kept g (fun _ _ f => f)
  · have := h.o2
    split at this
    · rename_i hp; rw [if_pos hp]; exact ⟨this.1.kept g (fun _ _ f => f), this.2⟩
    · rename_i hp; rw [if_neg hp]; exact this.kept g (fun _ _ f => f)
theorem Ap.app1 (H : ApH w3 cb ov nv) (h : Ap w3 cb X Y Z ov nv l1 l2 a n 0 x y w) {u : Value} (hu : Ow w u [a]) (hl : l1.length ≤ 1000000) :
    ∃ v w', (Builtin.append_ #[22, 22] 22 #[ov, u]).run Try.prog w = .ok v w' ∧ Ap w3 cb X Y Z ov nv l1 l2 a n 1 v y w' ∧ Fr (fun b => ov.ownBlock = some b ∨ nv.ownBlock = some b ∨ b = cb) w w' := by
  have h1 := h.o1
  have h2 := h.o2
  rw [if_neg (by omega)] at h1 h2
  have hs := h.fr.size
  obtain ⟨v, w', r, o, f, q⟩ := app_ow h1 hu (by simp; omega) 22
  have f' : Fr (fun b => ov.ownBlock = some b ∨ nv.ownBlock = some b ∨ b = cb) w w' := f.mono (fun _ _ e => .inl e)
  refine ⟨v, w', r, ⟨h.fr.trans f' (fun _ _ e => e), f.get h.cbc H.o, ?_, ?_⟩, f'⟩
  · rw [if_pos (by omega)]
    exact ⟨o, fun g hg => (q g hg).imp id (fun e => by omega)⟩
  · rw [if_neg (by omega)]
    exact h2.kept f (fun g hg e => H.ne g e hg)
theorem Ap.app2 (H : ApH w3 cb ov nv) (h : Ap w3 cb X Y Z ov nv l1 l2 a n 1 x y w) {u : Value} (hu : Ow w u [n]) (hl : l2.length ≤ 1000000) :
    ∃ v w', (Builtin.append_ #[22, 22] 22 #[nv, u]).run Try.prog w = .ok v w' ∧ Ap w3 cb X Y Z ov nv l1 l2 a n 2 x v w' ∧ Fr (fun b => ov.ownBlock = some b ∨ nv.ownBlock = some b ∨ b = cb) w w' := by
  have h1 := h.o1
  have h2 := h.o2
  rw [if_pos (by omega)] at h1
  rw [if_neg (by omega)] at h2
  have hs := h.fr.size
  obtain ⟨v, w', r, o, f, q⟩ := app_ow h2 hu (by simp; omega) 22
  have f' : Fr (fun b => ov.ownBlock = some b ∨ nv.ownBlock = some b ∨ b = cb) w w' := f.mono (fun _ _ e => .inr (.inl e))
  have hxn : ∀ g, x.ownBlock = some g → nv.ownBlock ≠ some g := fun g hg e => (h1.2 g hg).elim (fun q => H.ne g q e) (fun q => by have := H.ln g e; omega)
  refine ⟨v, w', r, ⟨h.fr.trans f' (fun _ _ e => e), f.get h.cbc H.n, ?_, ?_⟩, f'⟩
  · rw [if_pos (by omega)]
    exact ⟨h1.1.kept f (fun g hg e => hxn g hg e), h1.2⟩
  · rw [if_pos (by omega)]
    exact ⟨o, fun g hg => (q g hg).imp id (fun e => by omega), fun g hg e => (q g e).elim (fun q => hxn g hg q) (fun q => by have := h1.1.lt hg; omega)⟩
theorem Ap.st3 (H : ApH w3 cb ov nv) (h : Ap w3 cb X Y Z ov nv l1 l2 a n 2 x y w) : Ap w3 cb X Y Z ov nv l1 l2 a n 3 x y (w.setCell ⟨cb, 3, none⟩ x) ∧ Fr (fun b => ov.ownBlock = some b ∨ nv.ownBlock = some b ∨ b = cb) w (w.setCell ⟨cb, 3, none⟩ x) := by
  have h1 := h.o1
  have h2 := h.o2
  rw [if_pos (by omega)] at h1 h2
  have f : Fr (fun b => b = cb) w (w.setCell ⟨cb, 3, none⟩ x) := (Fr.refl (fun b => b = cb) w).setCell (p := ⟨cb, 3, none⟩) (fun _ => rfl) _
  have f' : Fr (fun b => ov.ownBlock = some b ∨ nv.ownBlock = some b ∨ b = cb) w (w.setCell ⟨cb, 3, none⟩ x) := f.mono (fun _ _ e => .inr (.inr e))
  have hlc := H.lc
  refine ⟨⟨h.fr.trans f' (fun _ _ e => e), ?_, ?_, ?_⟩, f'⟩
  · rw [setCell_get h.cbc]; simp
  · rw [if_pos (by omega)]
    exact ⟨h1.1.kept f (fun g hg e => (h1.2 g hg).elim (fun q => H.o (e ▸ q)) (fun q => by omega)), h1.2⟩
  · rw [if_pos (by omega)]
    exact ⟨h2.1.kept f (fun g hg e => (h2.2.1 g hg).elim (fun q => H.n (e ▸ q)) (fun q => by omega)), h2.2⟩
theorem Ap.st4 (H : ApH w3 cb ov nv) (h : Ap w3 cb X Y Z ov nv l1 l2 a n 3 x y w) : Ap w3 cb X Y Z ov nv l1 l2 a n 4 x y (w.setCell ⟨cb, 4, none⟩ y) ∧ Fr (fun b => ov.ownBlock = some b ∨ nv.ownBlock = some b ∨ b = cb) w (w.setCell ⟨cb, 4, none⟩ y) := by
  have h1 := h.o1
  have h2 := h.o2
  rw [if_pos (by omega)] at h1 h2
  have f : Fr (fun b => b = cb) w (w.setCell ⟨cb, 4, none⟩ y) := (Fr.refl (fun b => b = cb) w).setCell (p := ⟨cb, 4, none⟩) (fun _ => rfl) _
  have f' : Fr (fun b => ov.ownBlock = some b ∨ nv.ownBlock = some b ∨ b = cb) w (w.setCell ⟨cb, 4, none⟩ y) := f.mono (fun _ _ e => .inr (.inr e))
  have hlc := H.lc
  refine ⟨⟨h.fr.trans f' (fun _ _ e => e), ?_, ?_, ?_⟩, f'⟩
  · rw [setCell_get h.cbc]; simp
  · rw [if_pos (by omega)]
    exact ⟨h1.1.kept f (fun g hg e => (h1.2 g hg).elim (fun q => H.o (e ▸ q)) (fun q => by omega)), h1.2⟩
  · rw [if_pos (by omega)]
    exact ⟨h2.1.kept f (fun g hg e => (h2.2.1 g hg).elim (fun q => H.n (e ▸ q)) (fun q => by omega)), h2.2⟩

/-- what the region keeps -/
def IAp (w3 : World) (cb : Nat) (X Y Z ov nv : Value) (l1 l2 : List Int) (a n : Int) (listed : Array Bool) (A : Act) (w : World) : Prop :=
  ∃ p x y, Ap w3 cb X Y Z ov nv l1 l2 a n p x y w ∧ (1 ≤ p ↔ listed.getD 8 false = true) ∧ (2 ≤ p ↔ listed.getD 15 false = true) ∧ (3 ≤ p ↔ listed.getD 18 false = true) ∧ (4 ≤ p ↔ listed.getD 21 false = true) ∧
    (1 ≤ p → A.tmps.getD 73 undef = x) ∧ (2 ≤ p → A.tmps.getD 80 undef = y) ∧ A.tmps.size = 86
theorem IAp.pure {listed : Array Bool} {A : Act} (h : IAp w3 cb X Y Z ov nv l1 l2 a n listed A w) (g : Grew w w') {i : Nat} {d : Tmp} {v : Value} (hi : i ≠ 8 ∧ i ≠ 15 ∧ i ≠ 18 ∧ i ≠ 21) (hd : d ≠ 73 ∧ d ≠ 80) :
    IAp w3 cb X Y Z ov nv l1 l2 a n (listed.setIfInBounds i true) (A.put (some d) v) w' := by
  obtain ⟨p, x, y, h1, h2, h3, h4, h5, h6, h7, h8⟩ := h
  refine ⟨p, x, y, h1.grew g, ?_, ?_, ?_, ?_, ?_, ?_, by rw [put_size]; exact h8⟩
  · rw [getD_set_ne false hi.1]; exact h2
  · rw [getD_set_ne false hi.2.1]; exact h3
  · rw [getD_set_ne false hi.2.2.1]; exact h4
  · rw [getD_set_ne false hi.2.2.2]; exact h5
  · rw [put_getD_ne v hd.1]; exact h6
  · rw [put_getD_ne v hd.2]; exact h7
theorem getD_set_at {listed : Array Bool} {i : Nat} (h : i < listed.size) : (listed.setIfInBounds i true).getD i false = true := by simp [h]

/-- a slice of one, new -/
def FOne (N : Nat) (z : Int) (v : Value) (w : World) : Prop := ∃ g, v = .slice (some ⟨g, 0, none⟩) 1 1 ∧ N ≤ g ∧ Ow w v [z]
def FAny (_ : Value) (_ : World) : Prop := True
theorem FOne.stays {G : Nat → Prop} {N : Nat} (hG : ∀ b, G b → b < N) (z : Int) : ∀ v w w', Fr G w w' → FOne N z v w → FOne N z v w' := by
  rintro v w w' h ⟨g, rfl, h1, h2⟩
  exact ⟨g, rfl, h1, h2.kept h (fun b hb e => by simp [Value.ownBlock] at hb; subst hb; have := hG _ e; omega)⟩
end

set_option maxHeartbeats 4000000 in
set_option maxRecDepth 100000 in
theorem rcopied_any {cb xb tb d : Nat} {A T : AH} {f1 fr : List Nat} {s : CS} {xs : List PO} {w : World} (hW : A.WF) (hd : d ≤ 1000) {k : Int} (hk : A.has k) (h : RH w xb A f1) (hC : RC w cb xb tb d s T xs fr)
    (hdis : ∀ b ∈ f1, b ∉ fr) (hu : T.used = s.used) (hu0 : 0 ≤ s.used) (hu1 : s.used ≤ 1000000000) (ho : s.ord.length ≤ 1000000) (hTl : T.objs.length ≤ 1000000) :
    Calls Try.prog 63 #[.pointer (some ⟨cb, 0, none⟩), .int .i64 k] w (RCopiedPost w A cb xb tb d s T xs k fr) := by
  have HS := hid (fun w' (hg : Grew w w') => rshort_any hW d hd k hk w' (h.grew hg))
  have hah := short_has hW d k hk
  have hpa := hW.shaped.ptrs_le (A.short d k)
  have hna := hW.shaped.nums_le (A.short d k)
  obtain ⟨ft, lv, ov, nv, t1, t2, t3, t4, t5, t6⟩ := id hC
  have c0 : w.cell? ⟨cb, 0, none⟩ = some (.pointer (some ⟨xb, 0, none⟩)) := by rw [cell_of_get t2]; rfl
  have c1 : w.cell? ⟨cb, 1, none⟩ = some (.pointer (some ⟨tb, 0, none⟩)) := by rw [cell_of_get t2]; rfl
  have c2 : w.cell? ⟨cb, 2, none⟩ = some (Kv d) := by rw [cell_of_get t2]; rfl
  have c3 : w.cell? ⟨cb, 3, none⟩ = some ov := by rw [cell_of_get t2]; rfl
  have c4 : w.cell? ⟨cb, 4, none⟩ = some nv := by rw [cell_of_get t2]; rfl
  have hcop : s.copied A d k = (match lookI (A.short d k) s.ord with | some n => (n, s) | none => (s.used, s.put A (A.short d k))) := rfl
  have hpost : ∀ (e : Ending) (w' : World) (r : Int × CS), s.copied A d k = r → (e = .returned (Kv r.1) ∧ ∃ fr' ys, RC w' cb xb tb d r.2 (if lookI (A.short d k) s.ord = none then T.add (A.tag (A.short d k)) (A.ptrs (A.short d k)) (A.nums (A.short d k)) else T) (xs ++ ys) fr' ∧
    Fr (· ∈ fr) w w' ∧ ∀ b ∈ fr', b ∈ fr ∨ w.heap.size ≤ b) → RCopiedPost w A cb xb tb d s T xs k fr e w' := fun e w' r hr hp => by subst hr; exact hp
  have HC := hid (And.intro hC (And.intro h (And.intro hdis (And.intro hu (And.intro hah hW)))))
  have HX := hid (And.intro t1 (And.intro t2 (And.intro t3 (And.intro t4 (And.intro t5 t6)))))
  have HPOST := hid (And.intro hcop hpost)
  clear hC h hdis hu hah t1 t2 t3 t4 t5 t6 hk hcop hpost
  generalize A.short d k = a at *
  go_enter Try.func63, Try.ntmps63
  go_wp2
  refine wp_region_facts 10 Grew [(7, Ex (.pointer (some ⟨cb, 0, none⟩))), (8, Ex (.pointer (some ⟨cb, 0, none⟩))), (9, Ex (.pointer (some ⟨cb, 0, none⟩))), (10, Ex (.pointer (some ⟨xb, 0, none⟩))), (11, Ex (Kv k)), (12, Ex (.pointer (some ⟨cb, 0, none⟩))), (13, Ex (.pointer (some ⟨cb, 0, none⟩))), (14, Ex (.pointer (some ⟨cb, 2, none⟩))), (15, Ex (Kv d)), (16, Ex (Kv a))] (by kernel_rfl) (by kernel_rfl) (by rfl) (by rfl)
    (fun a => Fr.refl _ a) (fun a b c h k => h.trans k (fun _ _ f => f)) (Fr.refl _ _).drew
    (Stays.all ⟨Ex.stays _, Ex.stays _, Ex.stays _, Ex.stays _, Ex.stays _, Ex.stays _, Ex.stays _, Ex.stays _, Ex.stays _, Ex.stays _, trivial⟩) ?_ ?_
  · go_light
    refine OpGoals.cons (OpGoal.plain rfl ?_) (OpGoals.cons (OpGoal.plain rfl ?_) (OpGoals.cons (OpGoal.plain rfl ?_) (OpGoals.cons (OpGoal.plain rfl ?_) (OpGoals.cons (OpGoal.plain rfl ?_) (OpGoals.cons (OpGoal.plain rfl ?_) (OpGoals.cons (OpGoal.plain rfl ?_) (OpGoals.cons (OpGoal.plain rfl ?_) (OpGoals.cons (OpGoal.plain rfl ?_) (OpGoals.cons (OpGoal.plain rfl ?_) OpGoals.none)))))))))
    all_goals (intro a' w' hS hR; simp [Rd, Op.operands, Call.operands, Fk, Ex] at hR)
    all_goals (have c0' := hS.cell c0 (fun f => f))
    all_goals (have c2' := hS.cell c2 (fun f => f))
    all_goals try (simp [Yields, execOp, Act.eval, hR, c0', c2', go_sem, Fk, Ex, Fr.refl]; done)
    · simp [Yields, Act.eval, hR, go_sem, Fk, Ex]
      refine (HS.out _ hS).mono ?_
      rintro e w2 ⟨rfl, h3⟩
      exact ⟨_, rfl, rfl, h3⟩
  · intro w1 hS
    rintro _ rfl _ rfl _ rfl _ rfl _ rfl _ rfl _ rfl _ rfl _ rfl _ rfl
    refine Then.nil ?_
    have G1 := hid hS
    replace c0 := hS.cell c0 (fun f => f)
    replace c1 := hS.cell c1 (fun f => f)
    replace c2 := hS.cell c2 (fun f => f)
    replace c3 := hS.cell c3 (fun f => f)
    replace c4 := hS.cell c4 (fun f => f)
    obtain ⟨oa, oc, rfl, hoc, _⟩ := (HX.out.2.2.1.kept hS (fun _ _ f => f)).shape
    obtain ⟨na, nc, rfl, hnc, _⟩ := (HX.out.2.2.2.1.kept hS (fun _ _ f => f)).shape
    rw [List.length_map] at c3 c4 hoc hnc
    simp only [List.length_map] at HX
    clear hS HS
    go_wp2
    go_loopw [5] (fun i wx => ∃ j : Nat, j ≤ s.ord.length ∧ i = .int .i64 j ∧ wx = w1 ∧ ∀ t (ht : t < s.ord.length), t < j → s.ord[t].1 ≠ a) (fun i _ => s.ord.length - (intOf i).toNat)
    case atStart => exact ⟨0, Nat.zero_le _, rfl, rfl, fun t _ ht => by omega⟩
    case round =>
      obtain ⟨j, hj, rfl, hwx, hno⟩ := hrel
      replace hwx := hwx.symm
      subst hwx
      have HNO := hid hno
      clear hno
      by_cases hj1 : j < s.ord.length
      · obtain ⟨go, co, he, _, _, _, hcl⟩ := (HX.out.2.2.1.kept G1.out (fun _ _ f => f)).at (by rw [List.length_map]; omega)
        rw [List.length_map] at he
        simp only [Value.slice.injEq] at he
        obtain ⟨rfl, -, rfl⟩ := he
        have hco := (hcl j (by rw [List.length_map]; exact hj1)).1
        rw [List.getElem_map] at hco
        obtain ⟨gn, cn, he, _, _, _, hcl2⟩ := (HX.out.2.2.2.1.kept G1.out (fun _ _ f => f)).at (by rw [List.length_map]; omega)
        rw [List.length_map] at he
        simp only [Value.slice.injEq] at he
        obtain ⟨rfl, -, rfl⟩ := he
        have hcn := (hcl2 j (by rw [List.length_map]; exact hj1)).1
        rw [List.getElem_map] at hcn
        have hjo : j < oc := by omega
        have hjn : j < nc := by omega
        by_cases hja : s.ord[j].1 = a
        · have hl := lookI_at hj1 HNO.out hja
          rw [hja] at hco
          have haa : (a == a) = true := by simp
          have HR := hid (HPOST.out.2 (.returned (Kv s.ord[j].2)) w1 (s.ord[j].2, s) (by rw [HPOST.out.1, hl]) ⟨rfl, fr, [], by rw [if_neg (by simp [hl]), List.append_nil]; exact HC.out.1.grew G1.out, G1.out.any, fun b hb => .inl hb⟩)
          obtain ⟨n, hn⟩ : ∃ v, s.ord[j].2 = v := ⟨_, rfl⟩
          rw [hn] at hcn HR
          clear hcl hcl2 hl hja HPOST HX HC HNO hn
          go_wp2
          go_ret
          exact HR.out
        · have hbf : (s.ord[j].1 == a) = false := by simpa using hja
          have HNO2 := hid (fun t (ht : t < s.ord.length) (h : t < j + 1) => by
            by_cases e : t = j
            · subst e; exact hja
            · exact HNO.out t ht (by omega) : ∀ t (ht : t < s.ord.length), t < j + 1 → s.ord[t].1 ≠ a)
          obtain ⟨v, hv⟩ : ∃ v, s.ord[j].1 = v := ⟨_, rfl⟩
          rw [hv] at hco hbf
          clear hcl hcl2 hja hv HNO
          go_wp2
          go_roundw
          case rel => exact ⟨j + 1, by omega, by go_num, trivial, HNO2.out⟩
          case measure => simp [intOf]; omega
      · have hl : lookI a s.ord = none := lookI_no (fun t ht => HNO.out t ht (by omega))
        have hcop := HPOST.out.1
        rw [hl] at hcop
        obtain ⟨ta, hta⟩ : ∃ t, A.tag a = t := ⟨_, rfl⟩
        obtain ⟨ps, hps⟩ : ∃ t, A.ptrs a = t := ⟨_, rfl⟩
        obtain ⟨ns, hns⟩ : ∃ t, A.nums a = t := ⟨_, rfl⟩
        rw [hps] at hpa
        rw [hns] at hna
        have HT := hid (fun w' (hg : Grew w1 w') => by
          have := rtag_any ((HC.out.2.1.grew G1.out).grew hg) HC.out.2.2.2.2.2.fine.few a
          rw [hta] at this; exact this : ∀ w', Grew w1 w' → Calls Try.prog 43 #[.pointer (some ⟨xb, 0, none⟩), .int .i64 a] w' fun e w'' => e = .returned (Kv ta) ∧ w' = w'')
        have HP := hid (fun w' (hg : Grew w1 w') => by
          have := rptrs_any ((HC.out.2.1.grew G1.out).grew hg) HC.out.2.2.2.2.2.fine.few a (by rw [hps]; omega)
          rw [hps] at this; exact this : ∀ w', Grew w1 w' → Calls Try.prog 60 #[.pointer (some ⟨xb, 0, none⟩), .int .i64 a] w' (NewRow w' ps))
        have HN := hid (fun w' (hg : Grew w1 w') => by
          have := rnums_any ((HC.out.2.1.grew G1.out).grew hg) HC.out.2.2.2.2.2.fine.few a (by rw [hns]; omega)
          rw [hns] at this; exact this : ∀ w', Grew w1 w' → Calls Try.prog 61 #[.pointer (some ⟨xb, 0, none⟩), .int .i64 a] w' (NewRow w' ns))
        have HPOST2 := hid (fun e w' h => HPOST.out.2 e w' (s.used, s.put A a) hcop h)
        rw [if_pos hl, hta, hps, hns] at HPOST2
        clear hl hcop HPOST HNO hta hps hns
        go_wp2
        refine wp_region_facts 22 Grew [(42, Ex (.pointer (some ⟨cb, 0, none⟩))), (43, Ex (.pointer (some ⟨cb, 0, none⟩))), (44, Ex (.pointer (some ⟨cb, 1, none⟩))), (45, Ex (.pointer (some ⟨tb, 0, none⟩))), (46, Ex (.pointer (some ⟨cb, 0, none⟩))), (47, Ex (.pointer (some ⟨cb, 0, none⟩))), (48, Ex (.pointer (some ⟨cb, 0, none⟩))), (49, Ex (.pointer (some ⟨xb, 0, none⟩))), (50, Ex (Kv a)), (51, Ex (Kv ta)), (52, Ex (.pointer (some ⟨cb, 0, none⟩))), (53, Ex (.pointer (some ⟨cb, 0, none⟩))), (54, Ex (.pointer (some ⟨cb, 0, none⟩))), (55, Ex (.pointer (some ⟨xb, 0, none⟩))), (56, Ex (Kv a)), (57, FMine 0 ps), (58, Ex (.pointer (some ⟨cb, 0, none⟩))), (59, Ex (.pointer (some ⟨cb, 0, none⟩))), (60, Ex (.pointer (some ⟨cb, 0, none⟩))), (61, Ex (.pointer (some ⟨xb, 0, none⟩))), (62, Ex (Kv a)), (63, FMine 0 ns)] (by kernel_rfl) (by kernel_rfl) (by rfl) (by rfl)
          (fun a => Fr.refl _ a) (fun a b c h k => h.trans k (fun _ _ f => f)) (Fr.refl _ _).drew
          (Stays.all ⟨Ex.stays _, Ex.stays _, Ex.stays _, Ex.stays _, Ex.stays _, Ex.stays _, Ex.stays _, Ex.stays _, Ex.stays _, Ex.stays _, Ex.stays _, Ex.stays _, Ex.stays _, Ex.stays _, Ex.stays _, FMine.stays _ _, Ex.stays _, Ex.stays _, Ex.stays _, Ex.stays _, Ex.stays _, FMine.stays _ _, trivial⟩) ?_ ?_
        · go_light
          refine OpGoals.cons (OpGoal.plain rfl ?_) (OpGoals.cons (OpGoal.plain rfl ?_) (OpGoals.cons (OpGoal.plain rfl ?_) (OpGoals.cons (OpGoal.plain rfl ?_) (OpGoals.cons (OpGoal.plain rfl ?_) (OpGoals.cons (OpGoal.plain rfl ?_) (OpGoals.cons (OpGoal.plain rfl ?_) (OpGoals.cons (OpGoal.plain rfl ?_) (OpGoals.cons (OpGoal.plain rfl ?_) (OpGoals.cons (OpGoal.plain rfl ?_) (OpGoals.cons (OpGoal.plain rfl ?_) (OpGoals.cons (OpGoal.plain rfl ?_) (OpGoals.cons (OpGoal.plain rfl ?_) (OpGoals.cons (OpGoal.plain rfl ?_) (OpGoals.cons (OpGoal.plain rfl ?_) (OpGoals.cons (OpGoal.plain rfl ?_) (OpGoals.cons (OpGoal.plain rfl ?_) (OpGoals.cons (OpGoal.plain rfl ?_) (OpGoals.cons (OpGoal.plain rfl ?_) (OpGoals.cons (OpGoal.plain rfl ?_) (OpGoals.cons (OpGoal.plain rfl ?_) (OpGoals.cons (OpGoal.plain rfl ?_) OpGoals.none)))))))))))))))))))))
          all_goals (intro a' w' hS hR; simp [Rd, Op.operands, Call.operands, Fk, Ex] at hR)
          all_goals (have c0' := hS.cell c0 (fun f => f))
          all_goals (have c1' := hS.cell c1 (fun f => f))
          all_goals try (simp [Yields, execOp, Act.eval, hR, c0', c1', go_sem, Fk, Ex, Fr.refl]; done)
          · simp [Yields, Act.eval, hR, go_sem, Fk, Ex]
            refine (HT.out _ hS).mono ?_
            rintro e w2 ⟨rfl, rfl⟩
            exact ⟨_, rfl, rfl, Fr.refl _ _⟩
          · simp [Yields, Act.eval, hR, go_sem, Fk, Ex]
            refine (HP.out _ hS).mono ?_
            rintro e w2 ⟨v, rfl, h1, h2, h3⟩
            exact ⟨v, rfl, FMine.made h1 h3 (Nat.zero_le _), h2⟩
          · simp [Yields, Act.eval, hR, go_sem, Fk, Ex]
            refine (HN.out _ hS).mono ?_
            rintro e w2 ⟨v, rfl, h1, h2, h3⟩
            exact ⟨v, rfl, FMine.made h1 h3 (Nat.zero_le _), h2⟩
        · intro w2 hS
          rintro _ rfl _ rfl _ rfl _ rfl _ rfl _ rfl _ rfl _ rfl _ rfl _ rfl _ rfl _ rfl _ rfl _ rfl _ rfl v57 f57 _ rfl _ rfl _ rfl _ rfl _ rfl v63 f63
          refine Then.nil ?_
          have G2 := hid (G1.out.trans hS (fun _ _ f => f))
          go_wp2_with fail
          refine (rputx_any (HX.out.1.kept G2.out (fun _ _ f => f)) hTl (by rw [HC.out.2.2.2.1]; exact hu0) (by rw [HC.out.2.2.2.1]; exact hu1) ta f57.2.1 f63.2.1 (by omega) (by omega)).mono ?_
          rintro e w3 ⟨rfl, ft', lv', x, q1, q2, q3, q4, q5⟩
          rw [HC.out.2.2.2.1]
          have hnd := HX.out.2.2.2.2.2
          rw [HX.out.2.2.2.2.1] at hnd
          simp only [List.nodup_cons, List.nodup_append, List.mem_append, Option.mem_toList] at hnd
          have hcbt : cb ∉ ft := fun hm => hnd.1 (.inr (.inr hm))
          have hovt : ∀ g, (Value.slice oa s.ord.length oc).ownBlock = some g → g ∉ ft := fun g hg hm => hnd.2.2.2 g hg g (.inr hm) rfl
          have hnvt : ∀ g, (Value.slice na s.ord.length nc).ownBlock = some g → g ∉ ft := fun g hg hm => hnd.2.2.1.2.2 g hg g hm rfl
          have hvne : ∀ g, (Value.slice oa s.ord.length oc).ownBlock = some g → (Value.slice na s.ord.length nc).ownBlock ≠ some g := fun g hg e => hnd.2.2.2 g hg g (.inl e) rfl
          have t2 := q4.get (G2.out.get HX.out.2.1 (fun f => f)) hcbt
          have t3 := (HX.out.2.2.1.kept G2.out (fun _ _ f => f)).kept q4 hovt
          have t4 := (HX.out.2.2.2.1.kept G2.out (fun _ _ f => f)).kept q4 hnvt
          have hlo : (s.ord.map (·.1)).length ≤ 1000000 := by rw [List.length_map]; exact ho
          have hln : (s.ord.map (·.2)).length ≤ 1000000 := by rw [List.length_map]; exact ho
          have HH : ApH w3 cb (.slice oa s.ord.length oc) (.slice na s.ord.length nc) := ⟨hvne, fun e => hnd.1 (.inl e), fun e => hnd.1 (.inr (.inl e)), fun g hg => t3.lt hg, fun g hg => t4.lt hg, lt_of_get t2⟩
          have hGlt : ∀ b, ((Value.slice oa s.ord.length oc).ownBlock = some b ∨ (Value.slice na s.ord.length nc).ownBlock = some b ∨ b = cb) → b < w3.heap.size := fun b e => e.elim (HH.lo b) (fun e => e.elim (HH.ln b) (fun e => e ▸ HH.lc))
          have HHD := hid HH
          have HD := hid (And.intro hcbt (And.intro hovt hnvt))
          have HLL := hid (And.intro hlo hln)
          have HQ := hid (And.intro q1 (And.intro q2 (And.intro q3 (And.intro q4 (And.intro q5 (And.intro t2 (And.intro t3 t4)))))))
          clear q1 q2 q3 q4 q5 t2 t3 t4 hnd hcbt hovt hnvt hvne hlo hln HT HP HN f57 f63 hS c0 c1 c2 c3 c4 HH
          go_wp2
          refine wp_region_factsJ 22 (IAp w3 cb (.pointer (some ⟨xb, 0, none⟩)) (.pointer (some ⟨tb, 0, none⟩)) (Kv d) (.slice oa s.ord.length oc) (.slice na s.ord.length nc) (s.ord.map (·.1)) (s.ord.map (·.2)) a s.used)
            (Fr (fun b => (Value.slice oa s.ord.length oc).ownBlock = some b ∨ (Value.slice na s.ord.length nc).ownBlock = some b ∨ b = cb))
            [(65, Ex (.pointer (some ⟨cb, 0, none⟩))), (66, Ex (.pointer (some ⟨cb, 0, none⟩))), (67, Ex (.pointer (some ⟨cb, 0, none⟩))), (68, Ex (.pointer (some ⟨cb, 0, none⟩))), (69, Ex (.pointer (some ⟨cb, 3, none⟩))), (70, Ex (.slice oa s.ord.length oc)), (71, Ex (Kv a)), (72, FOne w3.heap.size a), (73, FAny),
             (74, Ex (.pointer (some ⟨cb, 0, none⟩))), (75, Ex (.pointer (some ⟨cb, 0, none⟩))), (76, Ex (.pointer (some ⟨cb, 4, none⟩))), (77, Ex (.slice na s.ord.length nc)), (78, Ex (Kv s.used)), (79, FOne w3.heap.size s.used), (80, FAny), (81, Ex (.pointer (some ⟨cb, 0, none⟩))), (82, Ex (.pointer (some ⟨cb, 3, none⟩))), (83, Ex (.pointer (some ⟨cb, 0, none⟩))), (84, Ex (.pointer (some ⟨cb, 4, none⟩)))]
            (by kernel_rfl) (by kernel_rfl) (by rfl) (by rfl) (fun a => Fr.refl _ a) (fun a b c h k => h.trans k (fun _ _ f => f)) (Fr.refl _ _).drew
            (Stays.all ⟨Ex.stays _, Ex.stays _, Ex.stays _, Ex.stays _, Ex.stays _, Ex.stays _, Ex.stays _, FOne.stays hGlt _, fun _ _ _ _ _ => trivial, Ex.stays _, Ex.stays _, Ex.stays _, Ex.stays _, Ex.stays _, FOne.stays hGlt _, fun _ _ _ _ _ => trivial, Ex.stays _, Ex.stays _, Ex.stays _, Ex.stays _, trivial⟩) ?_ ?_ ?_
          · go_light
            refine OpGoalsJ.cons ⟨rfl, ?_⟩ (OpGoalsJ.cons ⟨rfl, ?_⟩ (OpGoalsJ.cons ⟨rfl, ?_⟩ (OpGoalsJ.cons ⟨rfl, ?_⟩ (OpGoalsJ.cons ⟨rfl, ?_⟩ (OpGoalsJ.cons ⟨rfl, ?_⟩ (OpGoalsJ.cons ⟨rfl, ?_⟩ (OpGoalsJ.cons ⟨rfl, ?_⟩ (OpGoalsJ.cons ⟨rfl, ?_⟩ (OpGoalsJ.cons ⟨rfl, ?_⟩ (OpGoalsJ.cons ⟨rfl, ?_⟩ (OpGoalsJ.cons ⟨rfl, ?_⟩ (OpGoalsJ.cons ⟨rfl, ?_⟩ (OpGoalsJ.cons ⟨rfl, ?_⟩ (OpGoalsJ.cons ⟨rfl, ?_⟩ (OpGoalsJ.cons ⟨rfl, ?_⟩ (OpGoalsJ.cons ⟨rfl, ?_⟩ (OpGoalsJ.cons ⟨rfl, ?_⟩ (OpGoalsJ.cons ⟨rfl, ?_⟩ (OpGoalsJ.cons ⟨rfl, ?_⟩ (OpGoalsJ.cons ⟨rfl, ?_⟩ (OpGoalsJ.cons ⟨rfl, ?_⟩ OpGoalsJ.none)))))))))))))))))))))
            all_goals (intro listed a' w' hmc hS hI hR; simp [Rd, Op.operands, Call.operands, Fk, Ex] at hR)
            all_goals (have hIo := fun i d v (h1 : i ≠ 8 ∧ i ≠ 15 ∧ i ≠ 18 ∧ i ≠ 21) (h2 : d ≠ 73 ∧ d ≠ 80) => hI.pure (Fr.refl _ w') (i := i) (d := d) (v := v) h1 h2)
            all_goals try (simp [Yields, execOp, Act.eval, hR, go_sem, Fk, Ex, Fr.refl]; exact hIo _ _ _ (by decide) (by decide))
            · have h18 : listed.getD 18 false = false := by
                cases h : listed.getD 18 false with
                | false => rfl
                | true => have := hmc.closed 18 _ rfl h { on := 5, ground := .phase } (by simp) rfl; rw [hmc.not] at this; cases this
              obtain ⟨p, x', y', h1, h2, h3, h4, h5, h6, h7, h8⟩ := id hI
              have hp : ¬ 3 ≤ p := fun q => by have := h4.1 q; rw [h18] at this; cases this
              have hc : w'.cell? ⟨cb, 3, none⟩ = some (.slice oa s.ord.length oc) := by rw [cell_of_get h1.cbc]; simp [hp]
              simp [Yields, execOp, Act.eval, hR, hc, go_sem, Fk, Ex, Fr.refl]
              exact hIo _ _ _ (by decide) (by decide)
            · simp [Yields, execOp, Act.eval, hR, go_sem, Fk]
              exact ⟨⟨_, rfl, hS.size, Ow.one w' a⟩, (Grew.alloc _ _).any, hI.pure (Grew.alloc _ _) (by decide) (by decide)⟩
            · obtain ⟨e70, g, e72, hg, ho72⟩ := hR
              obtain ⟨p, x', y', h1, h2, h3, h4, h5, h6, h7, h8⟩ := id hI
              have hp : ¬ 1 ≤ p := fun q => by have := h2.1 q; rw [hmc.not] at this; cases this
              obtain rfl : p = 0 := by omega
              have e70' : a'.tmps.getD 70 undef = .slice oa s.ord.length oc := by rw [Array.getD_eq_getD_getElem?]; exact e70
              have e72' : a'.tmps.getD 72 undef = .slice (some ⟨g, 0, none⟩) 1 1 := by rw [Array.getD_eq_getD_getElem?]; exact e72
              rw [e72] at ho72
              obtain ⟨v, w2', hr, hap, hf⟩ := h1.app1 HHD.out ho72 HLL.out.1
              refine Yields.app rfl e70' e72' hr ⟨fun d hd => by cases hd; simp [Fk, FAny], hf, 1, v, y', hap, ?_, ?_, ?_, ?_, ?_, ?_, by rw [put_size]; exact h8⟩
              · rw [getD_set_at (by rw [hmc.size]; decide)]; simp
              · rw [getD_set_ne false (by decide), ← h3]; omega
              · rw [getD_set_ne false (by decide), ← h4]; omega
              · rw [getD_set_ne false (by decide), ← h5]; omega
              · intro _; exact put_getD_eq v (by rw [h8]; decide)
              · intro q; omega
            · have h15 : listed.getD 15 false = false := by
                cases h : listed.getD 15 false with
                | false => rfl
                | true => have := hmc.closed 15 _ rfl h { on := 12, ground := .data } (by simp) rfl; rw [hmc.not] at this; cases this
              obtain ⟨p, x', y', h1, h2, h3, h4, h5, h6, h7, h8⟩ := id hI
              have hp : ¬ 2 ≤ p := fun q => by have := h3.1 q; rw [h15] at this; cases this
              have hp4 : ¬ 4 ≤ p := by omega
              have hc : w'.cell? ⟨cb, 4, none⟩ = some (.slice na s.ord.length nc) := by rw [cell_of_get h1.cbc]; simp [hp4]
              simp [Yields, execOp, Act.eval, hR, hc, go_sem, Fk, Ex, Fr.refl]
              exact hIo _ _ _ (by decide) (by decide)
            · simp [Yields, execOp, Act.eval, hR, go_sem, Fk]
              exact ⟨⟨_, rfl, hS.size, Ow.one w' s.used⟩, (Grew.alloc _ _).any, hI.pure (Grew.alloc _ _) (by decide) (by decide)⟩
            · obtain ⟨e70, g, e72, hg, ho72⟩ := hR
              obtain ⟨p, x', y', h1, h2, h3, h4, h5, h6, h7, h8⟩ := id hI
              have hp : ¬ 2 ≤ p := fun q => by have := h3.1 q; rw [hmc.not] at this; cases this
              have hp1 : 1 ≤ p := h2.2 (hmc.own { on := 8, ground := .chain } (by simp) rfl)
              obtain rfl : p = 1 := by omega
              have e70' : a'.tmps.getD 77 undef = .slice na s.ord.length nc := by rw [Array.getD_eq_getD_getElem?]; exact e70
              have e72' : a'.tmps.getD 79 undef = .slice (some ⟨g, 0, none⟩) 1 1 := by rw [Array.getD_eq_getD_getElem?]; exact e72
              rw [e72] at ho72
              obtain ⟨v, w2', hr, hap, hf⟩ := h1.app2 HHD.out ho72 HLL.out.2
              refine Yields.app rfl e70' e72' hr ⟨fun d hd => by cases hd; simp [Fk, FAny], hf, 2, x', v, hap, ?_, ?_, ?_, ?_, ?_, ?_, by rw [put_size]; exact h8⟩
              · rw [getD_set_ne false (by decide), ← h2]; omega
              · rw [getD_set_at (by rw [hmc.size]; decide)]; simp
              · rw [getD_set_ne false (by decide), ← h4]; omega
              · rw [getD_set_ne false (by decide), ← h5]; omega
              · intro _; rw [put_getD_ne v (by decide)]; exact h6 (by omega)
              · intro _; exact put_getD_eq v (by rw [h8]; decide)
            · obtain ⟨p, x', y', h1, h2, h3, h4, h5, h6, h7, h8⟩ := id hI
              have hp : ¬ 3 ≤ p := fun q => by have := h4.1 q; rw [hmc.not] at this; cases this
              have hp1 : 2 ≤ p := h3.2 (hmc.own { on := 15, ground := .chain } (by simp) rfl)
              obtain rfl : p = 2 := by omega
              have ho1 := h1.o1
              rw [if_pos (by omega)] at ho1
              obtain ⟨xa, xc, ex, _, _⟩ := ho1.1.shape
              rw [List.length_append, List.length_map, List.length_singleton] at ex
              subst ex
              have e73 := h6 (by omega)
              have e73' := e73
              rw [Array.getD_eq_getD_getElem?] at e73
              have hc : w'.cell? ⟨cb, 3, none⟩ = some (.slice oa s.ord.length oc) := by rw [cell_of_get h1.cbc]; simp
              have hz := frozen_of_get h1.cbc 3
              obtain ⟨hap, hf⟩ := h1.st3 HHD.out
              simp [Yields, execOp, Act.eval, hR, e73, hc, hz, go_sem]
              refine ⟨hf, 3, _, y', hap, ?_, ?_, ?_, ?_, fun _ => e73', fun _ => h7 (by omega), h8⟩
              · rw [getD_set_ne false (by decide), ← h2]; omega
              · rw [getD_set_ne false (by decide), ← h3]; omega
              · rw [getD_set_at (by rw [hmc.size]; decide)]; simp
              · rw [getD_set_ne false (by decide), ← h5]; omega
            · obtain ⟨p, x', y', h1, h2, h3, h4, h5, h6, h7, h8⟩ := id hI
              have hp : ¬ 4 ≤ p := fun q => by have := h5.1 q; rw [hmc.not] at this; cases this
              have hp1 : 3 ≤ p := h4.2 (hmc.own { on := 18, ground := .chain } (by simp) rfl)
              obtain rfl : p = 3 := by omega
              have ho1 := h1.o2
              rw [if_pos (by omega)] at ho1
              obtain ⟨xa, xc, ex, _, _⟩ := ho1.1.shape
              rw [List.length_append, List.length_map, List.length_singleton] at ex
              subst ex
              have e73 := h7 (by omega)
              have e73' := e73
              rw [Array.getD_eq_getD_getElem?] at e73
              have hc : w'.cell? ⟨cb, 4, none⟩ = some (.slice na s.ord.length nc) := by rw [cell_of_get h1.cbc]; simp
              have hz := frozen_of_get h1.cbc 4
              obtain ⟨hap, hf⟩ := h1.st4 HHD.out
              simp [Yields, execOp, Act.eval, hR, e73, hc, hz, go_sem]
              refine ⟨hf, 4, x', _, hap, ?_, ?_, ?_, ?_, fun _ => h6 (by omega), fun _ => e73', h8⟩
              · rw [getD_set_ne false (by decide), ← h2]; omega
              · rw [getD_set_ne false (by decide), ← h3]; omega
              · rw [getD_set_ne false (by decide), ← h4]; omega
              · rw [getD_set_at (by rw [hmc.size]; decide)]; simp
          · obtain ⟨_, _, _, _, _, t2, t3, t4⟩ := HQ.out
            refine ⟨0, undef, undef, ⟨(Fr.refl _ _).drew, ?_, ?_, ?_⟩, ?_, ?_, ?_, ?_, fun q => by omega, fun q => by omega, rfl⟩
            · have := (Fr.refl (fun _ => False) w3).drew.get t2 (fun f => f)
              simpa using this
            · rw [if_neg (by omega)]; exact t3.kept (Fr.refl (fun _ => False) w3).drew (fun _ _ f => f)
            · rw [if_neg (by omega)]; exact t4.kept (Fr.refl (fun _ => False) w3).drew (fun _ _ f => f)
            all_goals rw [getD_replicate_false]; simp
          · intro w4 hS
            rintro _ rfl _ rfl _ rfl _ rfl _ rfl _ rfl _ rfl v72 _ v73 _ _ rfl _ rfl _ rfl _ rfl _ rfl v79 _ v80 _ _ rfl _ rfl _ rfl _ rfl
            refine Then.nil (K := fun a w => IAp _ _ _ _ _ _ _ _ _ _ _ _ a w → _) ?_
            rintro ⟨p, x', y', h1, h2, h3, h4, h5, _, _, _⟩
            have hp4 : 4 ≤ p := h5.2 rfl
            obtain ⟨q1, q2, q3, q4, q5, t2, t3, t4⟩ := HQ.out
            have hcb := h1.cbc
            have ho1 := h1.o1
            have ho2 := h1.o2
            rw [if_pos (by omega), if_pos (by omega)] at hcb
            rw [if_pos (by omega)] at ho1 ho2
            have hl2 := HX.out.1.kept G2.out (fun _ _ f => f)
            have hs23 := q4.size
            have hs12 := G2.out.size
            have hovl : ∀ g, (Value.slice oa s.ord.length oc).ownBlock = some g → g < w2.heap.size := fun g hg => (HX.out.2.2.1.kept G2.out (fun _ _ f => f)).lt hg
            have hnvl : ∀ g, (Value.slice na s.ord.length nc).ownBlock = some g → g < w2.heap.size := fun g hg => (HX.out.2.2.2.1.kept G2.out (fun _ _ f => f)).lt hg
            have hcbl : cb < w2.heap.size := lt_of_get (G2.out.get HX.out.2.1 (fun f => f))
            have hft : ∀ b ∈ ft', ¬ ((Value.slice oa s.ord.length oc).ownBlock = some b ∨ (Value.slice na s.ord.length nc).ownBlock = some b ∨ b = cb) := by
              intro b hb e
              rcases q5 b hb with h | h
              · rcases e with e | e | e
                · exact HD.out.2.1 b e h
                · exact HD.out.2.2 b e h
                · subst e; exact HD.out.1 h
              · rcases e with e | e | e
                · have := hovl b e; omega
                · have := hnvl b e; omega
                · omega
            have hq1 := q1.kept h1.fr hft
            have hftl := q1.lt
            have hRC : RC w4 cb xb tb d (s.put A a) (T.add ta ps ns) (xs ++ [x]) (cb :: (x'.ownBlock.toList ++ (y'.ownBlock.toList ++ ft'))) := by
              refine ⟨ft', lv', x', y', hq1, hcb, ?_, ?_, rfl, ?_⟩
              · simp only [CS.put, List.map_append, List.map_cons, List.map_nil]; exact ho1.1
              · simp only [CS.put, List.map_append, List.map_cons, List.map_nil]; exact ho2.1
              · simp only [List.nodup_cons, List.nodup_append, List.mem_append, Option.mem_toList]
                have hcx : x'.ownBlock ≠ some cb := fun e => (ho1.2 cb e).elim HHD.out.o (fun h => by have := HHD.out.lc; omega)
                have hcy : y'.ownBlock ≠ some cb := fun e => (ho2.2.1 cb e).elim HHD.out.n (fun h => by have := HHD.out.lc; omega)
                have hcf : cb ∉ ft' := fun h => hft cb h (.inr (.inr rfl))
                refine ⟨fun h => h.elim hcx (fun h => h.elim hcy hcf), ?_, ⟨?_, q1.nodup, ?_⟩, ?_⟩
                · cases x'.ownBlock <;> simp
                · cases y'.ownBlock <;> simp
                · intro g hg b hb e
                  subst e
                  rcases ho2.2.1 g hg with h | h
                  · exact hft g hb (.inr (.inl h))
                  · have := hftl g hb; omega
                · intro g hg b hb e
                  subst e
                  rcases hb with hb | hb
                  · exact ho2.2.2 g hg hb
                  · rcases ho1.2 g hg with h | h
                    · exact hft g hb (.inl h)
                    · have := hftl g hb; omega
            have hfrm : ∀ b, ((Value.slice oa s.ord.length oc).ownBlock = some b ∨ (Value.slice na s.ord.length nc).ownBlock = some b ∨ b = cb) → b ∈ fr := by
              intro b e
              rw [HX.out.2.2.2.2.1]
              simp only [List.mem_cons, List.mem_append, Option.mem_toList]
              rcases e with e | e | e
              · exact .inr (.inl e)
              · exact .inr (.inr (.inl e))
              · exact .inl e
            have hFr : Fr (· ∈ fr) w w4 := ((Grew.any G2.out : Fr (· ∈ fr) w w2).trans q4 (fun b _ hb => by rw [HX.out.2.2.2.2.1]; simp only [List.mem_cons, List.mem_append, Option.mem_toList]; exact .inr (.inr (.inr hb)))).trans h1.fr (fun b _ e => hfrm b e)
            have hbd : ∀ b ∈ cb :: (x'.ownBlock.toList ++ (y'.ownBlock.toList ++ ft')), b ∈ fr ∨ w.heap.size ≤ b := by
              intro b hb
              simp only [List.mem_cons, List.mem_append, Option.mem_toList] at hb
              rcases hb with e | e | e | e
              · exact .inl (hfrm b (.inr (.inr e)))
              · rcases ho1.2 b e with h | h
                · exact .inl (hfrm b (.inl h))
                · exact .inr (by omega)
              · rcases ho2.2.1 b e with h | h
                · exact .inl (hfrm b (.inr (.inl h)))
                · exact .inr (by omega)
              · rcases q5 b e with h | h
                · refine .inl ?_
                  rw [HX.out.2.2.2.2.1]; simp only [List.mem_cons, List.mem_append, Option.mem_toList]; exact .inr (.inr (.inr h))
                · exact .inr (by omega)
            have HEND := hid (HPOST2.out (.returned (Kv s.used)) w4 ⟨rfl, _, [x], hRC, hFr, hbd⟩)
            clear hRC hFr hbd hfrm hq1 hftl hft hovl hnvl hcbl hcb ho1 ho2 h1 h2 h3 h4 h5 q1 q2 q3 q4 q5 t2 t3 t4 hl2 HQ HX HC HHD HD HLL HPOST2 hS hGlt
            go_wp2
            go_ret
            exact HEND.out
end Go.Proofs.Ytjhdnbediipibaa
