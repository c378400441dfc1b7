import Derived.Test.YtddcfnjmppijjaaP5
import Derived.Test.YtddcfnjmppijjaaR3
/-! A term's text, in plain words; thunkref5.Names, row, Text. -/
namespace Go.Proofs.Ytddcfnjmppijjaa
open Go.RowKit

/-- texts, each behind a blank -/
def gt : List Str → Str
  | [] => []
  | x :: r => 32 :: (x ++ gt r)
/-- texts, parted by blanks -/
def gl : List Str → Str
  | [] => []
  | x :: r => x ++ gt r
theorem gt_snoc (l : List Str) (t : Str) : gt (l ++ [t]) = gt l ++ 32 :: t := by
  induction l with
  | nil => simp [gt]
  | cons x r ih => simp [gt, ih]
theorem gl_snoc (l : List Str) (t : Str) (h : l ≠ []) : gl (l ++ [t]) = gl l ++ 32 :: t := by
  cases l with
  | nil => exact absurd rfl h
  | cons x r => simp [gl, gt_snoc]
theorem gl_len_take (l : List Str) (i : Nat) : (gl (l.take i)).length ≤ (gl l).length := by
  have h : ∀ (l : List Str) (i : Nat), (gt (l.take i)).length ≤ (gt l).length := by
    intro l
    induction l with
    | nil => intro i; simp
    | cons x r ih =>
      intro i
      cases i with
      | zero => simp [gt]
      | succ i => have := ih i; simp only [List.take_succ_cons, gt, List.length_cons, List.length_append]; omega
  cases l with
  | nil => simp
  | cons x r =>
    cases i with
    | zero => simp [gl]
    | succ i => have := h r i; simp only [List.take_succ_cons, gl, List.length_append]; omega
theorem take_snoc {l : List Str} {i : Nat} {t : Str} (h : l[i]? = some t) : l.take (i + 1) = l.take i ++ [t] := by
  rw [List.take_add_one, h]; rfl
theorem gl_take {l : List Str} {i : Nat} {t : Str} (h : l[i]? = some t) (h0 : 0 < i) : gl (l.take (i + 1)) = gl (l.take i) ++ 32 :: t := by
  rw [take_snoc h]
  refine gl_snoc _ _ (fun e => ?_)
  have := congrArg List.length e
  have hi := (List.getElem?_eq_some_iff.1 h).1
  simp at this
  rcases this with rfl | rfl
  · omega
  · simp at hi
theorem gl_take0 {l : List Str} {t : Str} (h : l[0]? = some t) : gl (l.take 1) = t := by
  rw [take_snoc h]
  simp [gl, gt]
theorem gt_take {l : List Str} {i : Nat} {t : Str} (h : l[i]? = some t) : gt (l.take (i + 1)) = gt (l.take i) ++ 32 :: t := by
  rw [take_snoc h, gt_snoc]

/-- names and what they are bound to -/
def bds : List Str → List Str → List Str
  | n :: r, t :: s => (40 :: (n ++ 32 :: (t ++ [41]))) :: bds r s
  | _, _ => []
theorem bds_get {ns ts : List Str} {i : Nat} {n t : Str} (hn : ns[i]? = some n) (ht : ts[i]? = some t) : (bds ns ts)[i]? = some (40 :: (n ++ 32 :: (t ++ [41]))) := by
  induction ns generalizing ts i with
  | nil => simp at hn
  | cons m r ih =>
    cases ts with
    | nil => simp at ht
    | cons u s =>
      cases i with
      | zero => simp at hn ht; subst hn; subst ht; rfl
      | succ i => exact ih (by simpa using hn) (by simpa using ht)
theorem bds_length (ns ts : List Str) (h : ns.length ≤ ts.length) : (bds ns ts).length = ns.length := by
  induction ns generalizing ts with
  | nil => cases ts <;> rfl
  | cons m r ih =>
    cases ts with
    | nil => simp at h
    | cons u s => simp only [bds, List.length_cons, ih s (by simpa using h)]

/-- a term's text: its kind, its text, its names, its parts' texts -/
def form (k : Int) (t : Str) (ns ts : List Str) : Str :=
  if k = 3 then [40, 41]
  else if k = 4 then 39 :: t
  else if k = 6 then [40, 108, 97, 109, 98, 100, 97, 32, 40] ++ (gl ns ++ (41 :: 32 :: (ts.headD [] ++ [41])))
  else if k = 8 then [40, 105, 102, 32] ++ (gl ts ++ [41])
  else if k = 9 then [40, 108, 101, 116, 32, 40] ++ (gl (bds ns ts) ++ (41 :: 32 :: ((ts[ns.length]?.getD []) ++ [41])))
  else if k = 10 then 40 :: (t ++ 32 :: (gl ts ++ [41]))
  else if k = 7 then 40 :: (gl ts ++ [41])
  else t
mutual
/-- a term's text -/
def X.tx : X → Str
  | .mk k t ns a => form k t ns (txl a)
def txl : List X → List Str
  | [] => []
  | x :: r => x.tx :: txl r
end
theorem X.tx_eq (x : X) : x.tx = form x.kind x.text x.names (txl x.parts) := by cases x; rfl
theorem txl_get {l : List X} {i : Nat} {x : X} (h : l[i]? = some x) : (txl l)[i]? = some x.tx := by
  induction l generalizing i with
  | nil => simp at h
  | cons y r ih =>
    cases i with
    | zero => simp at h; subst h; rfl
    | succ i => exact ih (by simpa using h)
theorem txl_length (l : List X) : (txl l).length = l.length := by
  induction l with
  | nil => rfl
  | cons y r ih => simp only [txl, List.length_cons, ih]

set_option maxHeartbeats 4000000 in
/-- Names -/
theorem refnames_any {w : World} {D : Nat → Prop} {v : Value} {l : List Str} (h : Nm w D v l) (hb : (gl l).length ≤ 1000000000000) (w' : World) (hw : Grew w w') : Calls Try.prog 43 #[v] w' fun e w'' => e = .returned (St (gl l)) ∧ Grew w' w'' := by
  obtain ⟨av, cap, rfl, h1, h2⟩ := h.shape
  replace h2 : cap ≤ 9223372036854775807 := h2
  have HR := hid (fun (h0 : l ≠ []) => h.row h0)
  have HW := hid hw
  have HB := hid hb
  clear h hw hb
  go_enter Try.func43, Try.ntmps43
  go_wp2
  go_loopw [3, 4] (fun a b wr => ∃ i : Nat, i ≤ l.length ∧ b = .int .i64 i ∧ a = St (gl (l.take i)) ∧ Grew w' wr) (fun _ i _ => l.length - (intOf i).toNat)
  case atStart => exact ⟨0, Nat.zero_le _, rfl, by simp [gl], Fr.refl _ _⟩
  case round =>
    obtain ⟨i, hi, rfl, rfl, hgr⟩ := hrel
    by_cases hlt : i < l.length
    · obtain ⟨x, hx⟩ := at_of_lt hlt
      obtain ⟨g, o, c, e, -, -, -, hel⟩ := HR.out (fun e => by rw [e] at hlt; simp at hlt)
      simp only [Value.slice.injEq] at e
      obtain ⟨rfl, -, rfl⟩ := e
      have c0 := (HW.out.trans hgr (fun _ _ f => f)).cell (hel i x hx) (fun f => f)
      have HGR := hid hgr
      by_cases hi0 : 0 < i
      · have HE := hid (gl_take hx hi0)
        have hb1 : (gl (l.take i)).length + 1 + x.length ≤ 1000000000000 := by
          have h1 := gl_len_take l (i + 1)
          have h2 := HB.out
          rw [HE.out, List.length_append, List.length_cons] at h1
          omega
        have hi0' : (0 : Int) < (i : Int) := by omega
        generalize gl (l.take i) = s0 at *
        clear hx hel hgr
        go_wp2
        go_roundw
        case rel => exact ⟨i + 1, by omega, by go_num, by rw [HE.out]; simp [ByteArray.mk_append_mk], HGR.out⟩
        case measure => simp [intOf]; omega
      · obtain rfl : i = 0 := by omega
        have HE := hid (gl_take0 hx)
        have hb1 : x.length ≤ 1000000000000 := by
          have h1 := gl_len_take l 1
          have h2 := HB.out
          rw [HE.out] at h1
          omega
        rw [Nat.add_zero] at c0
        clear hx hel hgr hi0
        rw [show gl (l.take 0) = [] from rfl]
        go_wp2
        go_roundw
        case rel => exact ⟨1, by omega, by go_num, by rw [HE.out]; simp [ByteArray.mk_append_mk], HGR.out⟩
        case measure => simp [intOf]; omega
    · obtain rfl : i = l.length := by omega
      rw [List.take_length]
      have HGR := hid hgr
      clear hgr
      go_wp2
      go_ret
      exact ⟨rfl, HGR.out⟩

/-- what Text answers of the parts -/
def TxAt (w : World) (D : Nat → Prop) (av : Option Addr) (l : List X) : Prop :=
  l ≠ [] → ∃ g o, av = some ⟨g, o, none⟩ ∧ ∀ i x, l[i]? = some x → ∃ an cn aa ca, El w D g (o + i * 4) x an cn aa ca ∧ ∀ w', Grew w w' →
    Calls Try.prog 44 #[.agg #[Kv x.kind, St x.text, .slice an x.names.length cn, .slice aa x.parts.length ca]] w' fun e w'' => e = .returned (St x.tx) ∧ Grew w' w''

set_option maxHeartbeats 4000000 in
/-- row -/
theorem refrow_core {w : World} {D : Nat → Prop} {av : Option Addr} {l : List X} {cap : Nat} (H : TxAt w D av l) (hl : l.length ≤ 1000000) (hb : (gl (txl l)).length ≤ 1000000000000) (w' : World) (hw : Grew w w') :
    Calls Try.prog 65 #[.slice av l.length cap] w' fun e w'' => e = .returned (St (gl (txl l))) ∧ Grew w' w'' := by
  have HH := hid H
  have HW := hid hw
  have HB := hid hb
  clear H hw hb
  go_enter Try.func65, Try.ntmps65
  go_wp2
  go_loopw [3, 4] (fun a b wr => ∃ i : Nat, i ≤ l.length ∧ b = .int .i64 i ∧ a = St (gl ((txl l).take i)) ∧ Grew w' wr) (fun _ i _ => l.length - (intOf i).toNat)
  case atStart => exact ⟨0, Nat.zero_le _, rfl, by simp [gl], Fr.refl _ _⟩
  case round =>
    obtain ⟨i, hi, rfl, rfl, hgr⟩ := hrel
    by_cases hlt : i < l.length
    · obtain ⟨x, hx⟩ := at_of_lt hlt
      obtain ⟨g, o, rfl, hel⟩ := HH.out (fun e => by rw [e] at hlt; simp at hlt)
      obtain ⟨an, cn, aa, ca, he, hc⟩ := hel i x hx
      have hg2 := HW.out.trans hgr (fun _ _ f => f)
      have c0 := hg2.cell he.c0 (fun f => f)
      have c1 := hg2.cell he.c1 (fun f => f)
      have c2 := hg2.cell he.c2 (fun f => f)
      have c3 := hg2.cell he.c3 (fun f => f)
      have hcall := hc wr hg2
      have HGR := hid hgr
      have hxt := txl_get hx
      by_cases hi0 : 0 < i
      · have HE := hid (gl_take hxt hi0)
        have hb1 : (gl ((txl l).take i)).length + 1 + x.tx.length ≤ 1000000000000 := by
          have h1 := gl_len_take (txl l) (i + 1)
          have h2 := HB.out
          rw [HE.out, List.length_append, List.length_cons] at h1
          omega
        have hi0' : (0 : Int) < (i : Int) := by omega
        generalize gl ((txl l).take i) = s0 at *
        clear he hel hc hx hgr hg2 hxt
        go_wp2_with (go_at_call 44; (with_reducible refine hcall.mono ?_); rintro e w4 ⟨rfl, hg4⟩; clear hcall)
        go_roundw
        case rel => exact ⟨i + 1, by omega, by go_num, by rw [HE.out]; simp [ByteArray.mk_append_mk], HGR.out.trans hg4 (fun _ _ f => f)⟩
        case measure => simp [intOf]; omega
      · obtain rfl : i = 0 := by omega
        have HE := hid (gl_take0 hxt)
        have hb1 : x.tx.length ≤ 1000000000000 := by
          have h1 := gl_len_take (txl l) 1
          have h2 := HB.out
          rw [HE.out] at h1
          omega
        rw [Nat.zero_mul, Nat.add_zero] at c0 c1 c2 c3
        clear he hel hc hx hgr hg2 hxt hi0
        rw [show gl ((txl l).take 0) = [] from rfl]
        go_wp2_with (go_at_call 44; (with_reducible refine hcall.mono ?_); rintro e w4 ⟨rfl, hg4⟩; clear hcall)
        go_roundw
        case rel => exact ⟨1, by omega, by go_num, by rw [HE.out]; simp [ByteArray.mk_append_mk], HGR.out.trans hg4 (fun _ _ f => f)⟩
        case measure => simp [intOf]; omega
    · obtain rfl : i = l.length := by omega
      have HE := hid (show gl ((txl l).take l.length) = gl (txl l) by rw [← txl_length l, List.take_length])
      generalize gl ((txl l).take l.length) = s0 at *
      have HGR := hid hgr
      clear hgr
      go_wp2
      go_ret
      exact ⟨congrArg (fun b => Ending.returned (St b)) HE.out, HGR.out⟩

set_option maxHeartbeats 8000000 in
set_option maxRecDepth 100000 in
/-- Text, of a term's parts -/
theorem reftext_core {w : World} {D : Nat → Prop} {av : Option Addr} {l : List X} {cap : Nat} (H : TxAt w D av l) (hl : l.length ≤ 1000000) (w' : World) (hw : Grew w w') (k : Int) (t : Str) (vn : Value) (ns : List Str) (hn : Nm w D vn ns) (hnl : ns.length ≤ 1000000)
    (h6 : k = 6 → l.length = 1) (h9 : k = 9 → l.length = ns.length + 1) (hb : (form k t ns (txl l)).length ≤ 1000000000000) :
    Calls Try.prog 44 #[.agg #[Kv k, St t, vn, .slice av l.length cap]] w' fun e w'' => e = .returned (St (form k t ns (txl l))) ∧ Grew w' w'' := by
  obtain ⟨an, cn, rfl, hn1, hn2⟩ := hn.shape
  replace hn2 : cn ≤ 9223372036854775807 := hn2
  obtain ⟨W, hW⟩ : ∃ q : World, q = w'.alloc (.cells #[Kv k, St t, .slice an ns.length cn, .slice av l.length cap] 28) := ⟨_, rfl⟩
  have gW : Grew w' W := by rw [hW]; exact (Fr.refl _ _).alloc _
  have hbk : W.heap[w'.heap.size]? = some (.cells #[Kv k, St t, .slice an ns.length cn, .slice av l.length cap] 28 (0, 0)) := by rw [hW]; exact heap_alloc_new w' _
  have e0 := cell_of_get hbk 0
  have HE1 := hid (cell_of_get hbk 1)
  have HE2 := hid (cell_of_get hbk 2)
  have HE3 := hid (cell_of_get hbk 3)
  have HG := hid gW
  have HGW := hid (hw.trans gW (fun _ _ f => f))
  have HNM := hid (fun (hb : (gl ns).length ≤ 1000000000000) (w2 : World) (g : Grew W w2) => refnames_any hn hb w2 ((hw.trans gW (fun _ _ f => f)).trans g (fun _ _ f => f)))
  have HRW := hid (fun (hb : (gl (txl l)).length ≤ 1000000000000) (w2 : World) (g : Grew W w2) => refrow_core (cap := cap) H hl hb w2 ((hw.trans gW (fun _ _ f => f)).trans g (fun _ _ f => f)))
  have HNR := hid (fun (h0 : ns ≠ []) => hn.row h0)
  have HH := hid H
  clear H hw hn gW hbk
  go_enter Try.func44, Try.ntmps44
  by_cases k3 : k = 3
  · subst k3
    clear hb
    have hv := hid (show form 3 t ns (txl l) = [40, 41] from rfl)
    go_upto_region 1 with (fail)
    rw [← hW]
    clear hW h6 h9
    go_wp2
    go_ret
    exact ⟨congrArg (fun b => Ending.returned (St b)) hv.out.symm, HG.out⟩
  by_cases k4 : k = 4
  · subst k4
    have hv := hid (show form 4 t ns (txl l) = 39 :: t from rfl)
    rw [hv.out, List.length_cons] at hb
    have e1 := HE1.out
    go_upto_region 1 with (fail)
    rw [← hW]
    clear hW h6 h9 k3
    go_wp2
    go_ret
    exact ⟨by rw [hv.out]; simp [ByteArray.mk_append_mk], HG.out⟩
  by_cases k6 : k = 6
  · subst k6
    have hl1 : l.length = 1 := h6 rfl
    obtain ⟨x, rfl⟩ : ∃ x, l = [x] := by
      match l, hl1 with
      | [x], _ => exact ⟨x, rfl⟩
    obtain ⟨g, o, rfl, hel⟩ := HH.out (by simp)
    rw [List.length_singleton] at hW
    obtain ⟨an2, cn2, aa2, ca2, he, hc⟩ := hel 0 x rfl
    rw [Nat.zero_mul, Nat.add_zero] at he
    have HC := hid (And.intro (HGW.out.cell he.c0 (fun f => f)) (And.intro (HGW.out.cell he.c1 (fun f => f)) (And.intro (HGW.out.cell he.c2 (fun f => f)) (HGW.out.cell he.c3 (fun f => f)))))
    have HTX := hid (fun (w2 : World) (k : Grew W w2) => hc w2 (HGW.out.trans k (fun _ _ f => f)))
    have hv := hid (show form 6 t ns (txl [x]) = [40, 108, 97, 109, 98, 100, 97, 32, 40] ++ (gl ns ++ (41 :: 32 :: (x.tx ++ [41]))) from rfl)
    rw [hv.out] at hb
    simp only [List.length_append, List.length_cons, List.length_nil] at hb
    replace HNM := hid (HNM.out (by omega))
    go_upto_region 1 with (fail)
    rw [← hW]
    clear hW h6 h9 k3 k4 hl1 he hc hel HH HNR HRW
    replace HE3 : Hid (W.cell? ⟨w'.heap.size, 3, none⟩ = some (.slice (some ⟨g, o, none⟩) 1 cap)) := HE3
    replace HE2 : Hid (W.cell? ⟨w'.heap.size, 2, none⟩ = some (.slice an ns.length cn)) := HE2
    go_wp2
    refine Rg.wp_region_facts 13 Grew [(16, Rg.Ex (.pointer (some ⟨w'.heap.size, 2, none⟩))), (17, Rg.Ex (.slice an ns.length cn)), (18, Rg.Ex (.string ⟨(gl ns).toArray⟩)), (19, Rg.Ex (.string (⟨#[40, 108, 97, 109, 98, 100, 97, 32, 40]⟩ ++ ⟨(gl ns).toArray⟩))), (20, Rg.Ex (.string (⟨#[40, 108, 97, 109, 98, 100, 97, 32, 40]⟩ ++ ⟨(gl ns).toArray⟩ ++ ⟨#[41, 32]⟩))), (21, Rg.Ex (.pointer (some ⟨w'.heap.size, 3, none⟩))), (22, Rg.Ex (.slice (some ⟨g, o, none⟩) 1 cap)), (23, Rg.Ex (.pointer (some ⟨g, o, none⟩))), (24, Rg.Ex (.agg #[Kv x.kind, St x.text, .slice an2 x.names.length cn2, .slice aa2 x.parts.length ca2])), (25, Rg.Ex (.string ⟨x.tx.toArray⟩)), (26, Rg.Ex (.string (⟨#[40, 108, 97, 109, 98, 100, 97, 32, 40]⟩ ++ ⟨(gl ns).toArray⟩ ++ ⟨#[41, 32]⟩ ++ ⟨x.tx.toArray⟩))), (27, Rg.Ex (.string (⟨#[40, 108, 97, 109, 98, 100, 97, 32, 40]⟩ ++ ⟨(gl ns).toArray⟩ ++ ⟨#[41, 32]⟩ ++ ⟨x.tx.toArray⟩ ++ ⟨#[41]⟩))), (2, Rg.Ex (.string (⟨#[40, 108, 97, 109, 98, 100, 97, 32, 40]⟩ ++ ⟨(gl ns).toArray⟩ ++ ⟨#[41, 32]⟩ ++ ⟨x.tx.toArray⟩ ++ ⟨#[41]⟩)))] (by kernel_rfl) (by kernel_rfl) (by rfl) (by rfl)
      (fun a => Fr.refl _ a) (fun a b c h k => h.trans k (fun _ _ f => f)) (Fr.refl _ _).drew
      (Rg.Stays.all ⟨Rg.Ex.stays _, Rg.Ex.stays _, Rg.Ex.stays _, Rg.Ex.stays _, Rg.Ex.stays _, Rg.Ex.stays _, Rg.Ex.stays _, Rg.Ex.stays _, Rg.Ex.stays _, Rg.Ex.stays _, Rg.Ex.stays _, Rg.Ex.stays _, Rg.Ex.stays _, trivial⟩) ?_ ?_
    · go_light
      refine Rg.OpGoals.cons (Rg.OpGoal.plain rfl ?_) (Rg.OpGoals.cons (Rg.OpGoal.plain rfl ?_) (Rg.OpGoals.cons (Rg.OpGoal.plain rfl ?_) (Rg.OpGoals.cons (Rg.OpGoal.plain rfl ?_) (Rg.OpGoals.cons (Rg.OpGoal.plain rfl ?_) (Rg.OpGoals.cons (Rg.OpGoal.plain rfl ?_) (Rg.OpGoals.cons (Rg.OpGoal.plain rfl ?_) (Rg.OpGoals.cons (Rg.OpGoal.plain rfl ?_) (Rg.OpGoals.cons (Rg.OpGoal.plain rfl ?_) (Rg.OpGoals.cons (Rg.OpGoal.plain rfl ?_) (Rg.OpGoals.cons (Rg.OpGoal.plain rfl ?_) (Rg.OpGoals.cons (Rg.OpGoal.plain rfl ?_) (Rg.OpGoals.cons (Rg.OpGoal.plain rfl ?_) Rg.OpGoals.none))))))))))))
      all_goals (intro a' w' hS hR; simp [Rg.Rd, Op.operands, Call.operands, Rg.Fk, Rg.Ex] at hR)
      all_goals (have e2' := hS.cell HE2.out (fun f => f))
      all_goals (have e3' := hS.cell HE3.out (fun f => f))
      all_goals (have c0' := hS.cell HC.out.1 (fun f => f))
      all_goals (have c1' := hS.cell HC.out.2.1 (fun f => f))
      all_goals (have c2' := hS.cell HC.out.2.2.1 (fun f => f))
      all_goals (have c3' := hS.cell HC.out.2.2.2 (fun f => f))
      all_goals try (simp [Rg.Yields, execOp, Act.eval, hR, e2', e3', c0', c1', c2', c3', go_sem, Rg.Fk, Rg.Ex, Fr.refl]; done)
      · simp [Rg.Yields, Act.eval, hR, go_sem, Rg.Fk, Rg.Ex]
        refine (HNM.out _ hS).mono ?_
        rintro e w2 ⟨rfl, hg2⟩
        exact ⟨_, rfl, rfl, hg2⟩
      · simp [Rg.Yields, execOp, Act.eval, hR, go_sem, Rg.Fk, Rg.Ex]
        simp (disch := omega) [if_neg, Fr.refl]
      · simp [Rg.Yields, execOp, Act.eval, hR, go_sem, Rg.Fk, Rg.Ex]
        simp (disch := omega) [if_neg, Fr.refl]
      · simp [Rg.Yields, Act.eval, hR, go_sem, Rg.Fk, Rg.Ex]
        refine (HTX.out _ hS).mono ?_
        rintro e w2 ⟨rfl, hg2⟩
        exact ⟨_, rfl, rfl, hg2⟩
      · simp [Rg.Yields, execOp, Act.eval, hR, go_sem, Rg.Fk, Rg.Ex]
        simp (disch := omega) [if_neg, Fr.refl]
      · simp [Rg.Yields, execOp, Act.eval, hR, go_sem, Rg.Fk, Rg.Ex]
        simp (disch := omega) [if_neg, Fr.refl]
    · intro w5 hS
      rintro _ rfl _ rfl _ rfl _ rfl _ rfl _ rfl _ rfl _ rfl _ rfl _ rfl _ rfl _ rfl _ rfl
      refine Rg.Then.nil ?_
      have HS := hid hS
      clear hS
      go_wp2
      go_ret
      exact ⟨by rw [hv.out]; simp [ByteArray.mk_append_mk], HG.out.trans HS.out (fun _ _ f => f)⟩
  by_cases k8 : k = 8
  · subst k8
    have hv := hid (show form 8 t ns (txl l) = [40, 105, 102, 32] ++ (gl (txl l) ++ [41]) from rfl)
    have e3 := HE3.out
    rw [hv.out] at hb
    simp only [List.length_append, List.length_cons, List.length_nil] at hb
    have hcall := HRW.out (by omega) W (Fr.refl _ _)
    clear HRW
    generalize gl (txl l) = s0 at *
    go_upto_region 1 with (fail)
    rw [← hW]
    clear hW h6 h9 k3 k4 k6
    go_wp2_with (go_at_call 65; (with_reducible refine hcall.mono ?_); rintro e w4 ⟨rfl, hg4⟩; clear hcall)
    go_ret
    exact ⟨by rw [hv.out]; simp [ByteArray.mk_append_mk], HG.out.trans hg4 (fun _ _ f => f)⟩
  by_cases k9 : k = 9
  · subst k9
    have hl9 : l.length = ns.length + 1 := h9 rfl
    obtain ⟨g, o, rfl, hel⟩ := HH.out (fun e => by rw [e] at hl9; simp at hl9)
    obtain ⟨B, hB⟩ : ∃ B, bds ns (txl l) = B := ⟨_, rfl⟩
    have hBl : B.length = ns.length := by rw [← hB]; exact bds_length _ _ (by rw [txl_length]; omega)
    have hBg : ∀ (i : Nat) (n : Str) (x : X), ns[i]? = some n → l[i]? = some x → B[i]? = some (40 :: (n ++ 32 :: (x.tx ++ [41]))) := fun i n x h1 h2 => by rw [← hB]; exact bds_get h1 (txl_get h2)
    obtain ⟨y, hy⟩ := at_of_lt (l := l) (i := ns.length) (by omega)
    have hv := hid (show form 9 t ns (txl l) = [40, 108, 101, 116, 32, 40] ++ (gl B ++ (41 :: 32 :: (y.tx ++ [41]))) from by
      show [40, 108, 101, 116, 32, 40] ++ (gl (bds ns (txl l)) ++ (41 :: 32 :: (((txl l)[ns.length]?.getD []) ++ [41]))) = _
      rw [hB, txl_get hy]; rfl)
    rw [hv.out] at hb
    simp only [List.length_append, List.length_cons, List.length_nil] at hb
    have HEL := hid hel
    have HBG := hid hBg
    have HBL := hid hBl
    have HY := hid hy
    have HL9 := hid hl9
    clear h6 h9 k3 k4 k6 k8 hl9 hel HH HRW HNM hBg hBl hB hy
    go_upto_region 1 with (fail)
    rw [← hW]
    clear hW
    replace HE3 : Hid (W.cell? ⟨w'.heap.size, 3, none⟩ = some (.slice (some ⟨g, o, none⟩) l.length cap)) := HE3
    replace HE2 : Hid (W.cell? ⟨w'.heap.size, 2, none⟩ = some (.slice an ns.length cn)) := HE2
    go_wp2
    go_loopw [3, 4] (fun a b wr => ∃ i : Nat, i ≤ ns.length ∧ b = .int .i64 i ∧ a = St ([40, 108, 101, 116, 32, 40] ++ gl (B.take i)) ∧ Grew W wr) (fun _ i _ => ns.length - (intOf i).toNat)
    case atStart => exact ⟨0, Nat.zero_le _, rfl, by simp [gl], Fr.refl _ _⟩
    case round =>
      obtain ⟨i, hi, rfl, rfl, hgr⟩ := hrel
      have e2 := hgr.cell HE2.out (fun f => f)
      have HE2r := hid e2
      have HE3r := hid (hgr.cell HE3.out (fun f => f))
      have HGR := hid hgr
      have HGr := hid (HGW.out.trans hgr (fun _ _ f => f))
      have hlp := gl_len_take B i
      by_cases hlt : i < ns.length
      · obtain ⟨n, hn⟩ := at_of_lt hlt
        obtain ⟨x, hx⟩ := at_of_lt (l := l) (i := i) (by have := HL9.out; omega)
        obtain ⟨gn, on, cn', e, -, -, -, hnel⟩ := HNR.out (fun e => by rw [e] at hlt; simp at hlt)
        simp only [Value.slice.injEq] at e
        obtain ⟨rfl, -, rfl⟩ := e
        have HCNr := hid (HGr.out.cell (hnel i n hn) (fun f => f))
        obtain ⟨an2, cn2, aa2, ca2, he, hc⟩ := HEL.out i x hx
        have HCr := hid (And.intro (HGr.out.cell he.c0 (fun f => f)) (And.intro (HGr.out.cell he.c1 (fun f => f)) (And.intro (HGr.out.cell he.c2 (fun f => f)) (HGr.out.cell he.c3 (fun f => f)))))
        have HTX := hid (fun (w2 : World) (k : Grew wr w2) => hc w2 (HGr.out.trans k (fun _ _ f => f)))
        have hBi := HBG.out i n x hn hx
        have hin : (i : Int) < (ns.length : Int) := by omega
        have hil : (i : Int) < (l.length : Int) := by have := HL9.out; omega
        have hlp2 := gl_len_take B (i + 1)
        by_cases hi0 : 0 < i
        · have HE := hid (gl_take hBi hi0)
          have hi0' : (0 : Int) < (i : Int) := by omega
          rw [HE.out] at hlp2
          simp only [List.length_append, List.length_cons, List.length_nil] at hlp2
          obtain ⟨s0, hs0⟩ : ∃ s : Str, s = [40, 108, 101, 116, 32, 40] ++ gl (B.take i) ++ [32] := ⟨_, rfl⟩
          have hsl : s0.length = 7 + (gl (B.take i)).length := by rw [hs0]; simp; omega
          have HQ := hid (show (⟨([40, 108, 101, 116, 32, 40] ++ gl (B.take i)).toArray⟩ : ByteArray) ++ ⟨#[32]⟩ = ⟨s0.toArray⟩ by rw [hs0]; simp [ByteArray.mk_append_mk])
          replace HE := hid (show [40, 108, 101, 116, 32, 40] ++ gl (B.take (i + 1)) = s0 ++ (40 :: (n ++ 32 :: (x.tx ++ [41]))) by rw [HE.out, hs0]; simp)
          obtain ⟨s1, hs1⟩ : ∃ s : Str, s = [40, 108, 101, 116, 32, 40] ++ gl (B.take i) := ⟨_, rfl⟩
          have hsl1 : s1.length = 6 + (gl (B.take i)).length := by rw [hs1]; simp; omega
          rw [← hs1] at HQ
          rw [← hs1]
          clear hs1 hs0 hn hx hnel he hc hBi hgr hi0
          go_wp2
          rw [HQ.out]
          refine Rg.wp_region_facts 17 Grew [(48, Rg.Ex (.string ⟨s0.toArray⟩)), (49, Rg.Ex (.string (⟨s0.toArray⟩ ++ ⟨#[40]⟩))), (50, Rg.Ex (.pointer (some ⟨w'.heap.size, 2, none⟩))), (51, Rg.Ex (.slice (some ⟨gn, on, none⟩) ns.length cn)), (52, Rg.Ex (.int .i64 (i : Int))), (53, Rg.Ex (.pointer (some ⟨gn, on + i, none⟩))), (54, Rg.Ex (.string ⟨n.toArray⟩)), (55, Rg.Ex (.string (⟨s0.toArray⟩ ++ ⟨#[40]⟩ ++ ⟨n.toArray⟩))), (56, Rg.Ex (.string (⟨s0.toArray⟩ ++ ⟨#[40]⟩ ++ ⟨n.toArray⟩ ++ ⟨#[32]⟩))), (57, Rg.Ex (.pointer (some ⟨w'.heap.size, 3, none⟩))), (58, Rg.Ex (.slice (some ⟨g, o, none⟩) l.length cap)), (59, Rg.Ex (.int .i64 (i : Int))), (60, Rg.Ex (.pointer (some ⟨g, o + i * 4, none⟩))), (61, Rg.Ex (.agg #[Kv x.kind, St x.text, .slice an2 x.names.length cn2, .slice aa2 x.parts.length ca2])), (62, Rg.Ex (.string ⟨x.tx.toArray⟩)), (63, Rg.Ex (.string (⟨s0.toArray⟩ ++ ⟨#[40]⟩ ++ ⟨n.toArray⟩ ++ ⟨#[32]⟩ ++ ⟨x.tx.toArray⟩))), (64, Rg.Ex (.string (⟨s0.toArray⟩ ++ ⟨#[40]⟩ ++ ⟨n.toArray⟩ ++ ⟨#[32]⟩ ++ ⟨x.tx.toArray⟩ ++ ⟨#[41]⟩)))] (by kernel_rfl) (by kernel_rfl) (by rfl) (by rfl)
            (fun a => Fr.refl _ a) (fun a b c h k => h.trans k (fun _ _ f => f)) (Fr.refl _ _).drew
            (Rg.Stays.all ⟨Rg.Ex.stays _, Rg.Ex.stays _, Rg.Ex.stays _, Rg.Ex.stays _, Rg.Ex.stays _, Rg.Ex.stays _, Rg.Ex.stays _, Rg.Ex.stays _, Rg.Ex.stays _, Rg.Ex.stays _, Rg.Ex.stays _, Rg.Ex.stays _, Rg.Ex.stays _, Rg.Ex.stays _, Rg.Ex.stays _, Rg.Ex.stays _, Rg.Ex.stays _, trivial⟩) ?_ ?_
          · go_light
            refine Rg.OpGoals.cons (Rg.OpGoal.plain rfl ?_) (Rg.OpGoals.cons (Rg.OpGoal.plain rfl ?_) (Rg.OpGoals.cons (Rg.OpGoal.plain rfl ?_) (Rg.OpGoals.cons (Rg.OpGoal.plain rfl ?_) (Rg.OpGoals.cons (Rg.OpGoal.plain rfl ?_) (Rg.OpGoals.cons (Rg.OpGoal.plain rfl ?_) (Rg.OpGoals.cons (Rg.OpGoal.plain rfl ?_) (Rg.OpGoals.cons (Rg.OpGoal.plain rfl ?_) (Rg.OpGoals.cons (Rg.OpGoal.plain rfl ?_) (Rg.OpGoals.cons (Rg.OpGoal.plain rfl ?_) (Rg.OpGoals.cons (Rg.OpGoal.plain rfl ?_) (Rg.OpGoals.cons (Rg.OpGoal.plain rfl ?_) (Rg.OpGoals.cons (Rg.OpGoal.plain rfl ?_) (Rg.OpGoals.cons (Rg.OpGoal.plain rfl ?_) (Rg.OpGoals.cons (Rg.OpGoal.plain rfl ?_) (Rg.OpGoals.cons (Rg.OpGoal.plain rfl ?_) (Rg.OpGoals.cons (Rg.OpGoal.plain rfl ?_) Rg.OpGoals.none))))))))))))))))
            all_goals (intro a' w' hS hR; simp [Rg.Rd, Op.operands, Call.operands, Rg.Fk, Rg.Ex] at hR)
            all_goals (have e2' := hS.cell HE2r.out (fun f => f))
            all_goals (have e3' := hS.cell HE3r.out (fun f => f))
            all_goals (have n0' := hS.cell HCNr.out (fun f => f))
            all_goals (have c0' := hS.cell HCr.out.1 (fun f => f))
            all_goals (have c1' := hS.cell HCr.out.2.1 (fun f => f))
            all_goals (have c2' := hS.cell HCr.out.2.2.1 (fun f => f))
            all_goals (have c3' := hS.cell HCr.out.2.2.2 (fun f => f))
            all_goals try (simp [Rg.Yields, execOp, Act.eval, hR, e2', e3', n0', c0', c1', c2', c3', hin, hil, go_sem, Rg.Fk, Rg.Ex, Fr.refl]; done)
            · simp [Rg.Yields, execOp, Act.eval, hR, go_sem, Rg.Fk, Rg.Ex]
              simp (disch := omega) [if_neg, Fr.refl]
            · simp [Rg.Yields, execOp, Act.eval, hR, go_sem, Rg.Fk, Rg.Ex]
              simp (disch := omega) [if_neg, Fr.refl]
            · simp [Rg.Yields, execOp, Act.eval, hR, go_sem, Rg.Fk, Rg.Ex]
              simp (disch := omega) [if_neg, Fr.refl]
            · simp [Rg.Yields, Act.eval, hR, go_sem, Rg.Fk, Rg.Ex]
              refine (HTX.out _ hS).mono ?_
              rintro e w2 ⟨rfl, hg2⟩
              exact ⟨_, rfl, rfl, hg2⟩
            · simp [Rg.Yields, execOp, Act.eval, hR, go_sem, Rg.Fk, Rg.Ex]
              simp (disch := omega) [if_neg, Fr.refl]
            · simp [Rg.Yields, execOp, Act.eval, hR, go_sem, Rg.Fk, Rg.Ex]
              simp (disch := omega) [if_neg, Fr.refl]
          · intro w5 hS
            rintro _ rfl _ rfl _ rfl _ rfl _ rfl _ rfl _ rfl _ rfl _ rfl _ rfl _ rfl _ rfl _ rfl _ rfl _ rfl _ rfl _ rfl
            refine Rg.Then.nil ?_
            clear e2
            have HS := hid hS
            clear hS
            go_wp2
            go_roundw
            case rel => exact ⟨i + 1, by omega, by go_num, by rw [HE.out]; simp [ByteArray.mk_append_mk], HGR.out.trans HS.out (fun _ _ f => f)⟩
            case measure => simp [intOf]; omega
        · have hi00 : i = 0 := by omega
          have hi0' : ¬ (0 : Int) < (i : Int) := by omega
          have HE := hid (show gl (B.take (i + 1)) = 40 :: (n ++ 32 :: (x.tx ++ [41])) by rw [hi00] at hBi ⊢; exact gl_take0 hBi)
          rw [HE.out] at hlp2
          simp only [List.length_append, List.length_cons, List.length_nil] at hlp2
          rw [show gl (B.take i) = [] by rw [hi00]; rfl]
          obtain ⟨s0, hs0⟩ : ∃ s : Str, s = [40, 108, 101, 116, 32, 40] ++ [] := ⟨_, rfl⟩
          have hsl : s0.length = 6 := by rw [hs0]; simp
          replace HE := hid (show [40, 108, 101, 116, 32, 40] ++ gl (B.take (i + 1)) = s0 ++ (40 :: (n ++ 32 :: (x.tx ++ [41]))) by rw [HE.out, hs0]; simp)
          rw [← hs0]
          clear hs0 hn hx hnel he hc hBi hgr hi0 hi00
          go_wp2
          refine Rg.wp_region_facts 17 Grew [(48, Rg.Ex (.string ⟨s0.toArray⟩)), (49, Rg.Ex (.string (⟨s0.toArray⟩ ++ ⟨#[40]⟩))), (50, Rg.Ex (.pointer (some ⟨w'.heap.size, 2, none⟩))), (51, Rg.Ex (.slice (some ⟨gn, on, none⟩) ns.length cn)), (52, Rg.Ex (.int .i64 (i : Int))), (53, Rg.Ex (.pointer (some ⟨gn, on + i, none⟩))), (54, Rg.Ex (.string ⟨n.toArray⟩)), (55, Rg.Ex (.string (⟨s0.toArray⟩ ++ ⟨#[40]⟩ ++ ⟨n.toArray⟩))), (56, Rg.Ex (.string (⟨s0.toArray⟩ ++ ⟨#[40]⟩ ++ ⟨n.toArray⟩ ++ ⟨#[32]⟩))), (57, Rg.Ex (.pointer (some ⟨w'.heap.size, 3, none⟩))), (58, Rg.Ex (.slice (some ⟨g, o, none⟩) l.length cap)), (59, Rg.Ex (.int .i64 (i : Int))), (60, Rg.Ex (.pointer (some ⟨g, o + i * 4, none⟩))), (61, Rg.Ex (.agg #[Kv x.kind, St x.text, .slice an2 x.names.length cn2, .slice aa2 x.parts.length ca2])), (62, Rg.Ex (.string ⟨x.tx.toArray⟩)), (63, Rg.Ex (.string (⟨s0.toArray⟩ ++ ⟨#[40]⟩ ++ ⟨n.toArray⟩ ++ ⟨#[32]⟩ ++ ⟨x.tx.toArray⟩))), (64, Rg.Ex (.string (⟨s0.toArray⟩ ++ ⟨#[40]⟩ ++ ⟨n.toArray⟩ ++ ⟨#[32]⟩ ++ ⟨x.tx.toArray⟩ ++ ⟨#[41]⟩)))] (by kernel_rfl) (by kernel_rfl) (by rfl) (by rfl)
            (fun a => Fr.refl _ a) (fun a b c h k => h.trans k (fun _ _ f => f)) (Fr.refl _ _).drew
            (Rg.Stays.all ⟨Rg.Ex.stays _, Rg.Ex.stays _, Rg.Ex.stays _, Rg.Ex.stays _, Rg.Ex.stays _, Rg.Ex.stays _, Rg.Ex.stays _, Rg.Ex.stays _, Rg.Ex.stays _, Rg.Ex.stays _, Rg.Ex.stays _, Rg.Ex.stays _, Rg.Ex.stays _, Rg.Ex.stays _, Rg.Ex.stays _, Rg.Ex.stays _, Rg.Ex.stays _, trivial⟩) ?_ ?_
          · go_light
            refine Rg.OpGoals.cons (Rg.OpGoal.plain rfl ?_) (Rg.OpGoals.cons (Rg.OpGoal.plain rfl ?_) (Rg.OpGoals.cons (Rg.OpGoal.plain rfl ?_) (Rg.OpGoals.cons (Rg.OpGoal.plain rfl ?_) (Rg.OpGoals.cons (Rg.OpGoal.plain rfl ?_) (Rg.OpGoals.cons (Rg.OpGoal.plain rfl ?_) (Rg.OpGoals.cons (Rg.OpGoal.plain rfl ?_) (Rg.OpGoals.cons (Rg.OpGoal.plain rfl ?_) (Rg.OpGoals.cons (Rg.OpGoal.plain rfl ?_) (Rg.OpGoals.cons (Rg.OpGoal.plain rfl ?_) (Rg.OpGoals.cons (Rg.OpGoal.plain rfl ?_) (Rg.OpGoals.cons (Rg.OpGoal.plain rfl ?_) (Rg.OpGoals.cons (Rg.OpGoal.plain rfl ?_) (Rg.OpGoals.cons (Rg.OpGoal.plain rfl ?_) (Rg.OpGoals.cons (Rg.OpGoal.plain rfl ?_) (Rg.OpGoals.cons (Rg.OpGoal.plain rfl ?_) (Rg.OpGoals.cons (Rg.OpGoal.plain rfl ?_) Rg.OpGoals.none))))))))))))))))
            all_goals (intro a' w' hS hR; simp [Rg.Rd, Op.operands, Call.operands, Rg.Fk, Rg.Ex] at hR)
            all_goals (have e2' := hS.cell HE2r.out (fun f => f))
            all_goals (have e3' := hS.cell HE3r.out (fun f => f))
            all_goals (have n0' := hS.cell HCNr.out (fun f => f))
            all_goals (have c0' := hS.cell HCr.out.1 (fun f => f))
            all_goals (have c1' := hS.cell HCr.out.2.1 (fun f => f))
            all_goals (have c2' := hS.cell HCr.out.2.2.1 (fun f => f))
            all_goals (have c3' := hS.cell HCr.out.2.2.2 (fun f => f))
            all_goals try (simp [Rg.Yields, execOp, Act.eval, hR, e2', e3', n0', c0', c1', c2', c3', hin, hil, go_sem, Rg.Fk, Rg.Ex, Fr.refl]; done)
            · simp [Rg.Yields, execOp, Act.eval, hR, go_sem, Rg.Fk, Rg.Ex]
              simp (disch := omega) [if_neg, Fr.refl]
            · simp [Rg.Yields, execOp, Act.eval, hR, go_sem, Rg.Fk, Rg.Ex]
              simp (disch := omega) [if_neg, Fr.refl]
            · simp [Rg.Yields, execOp, Act.eval, hR, go_sem, Rg.Fk, Rg.Ex]
              simp (disch := omega) [if_neg, Fr.refl]
            · simp [Rg.Yields, Act.eval, hR, go_sem, Rg.Fk, Rg.Ex]
              refine (HTX.out _ hS).mono ?_
              rintro e w2 ⟨rfl, hg2⟩
              exact ⟨_, rfl, rfl, hg2⟩
            · simp [Rg.Yields, execOp, Act.eval, hR, go_sem, Rg.Fk, Rg.Ex]
              simp (disch := omega) [if_neg, Fr.refl]
            · simp [Rg.Yields, execOp, Act.eval, hR, go_sem, Rg.Fk, Rg.Ex]
              simp (disch := omega) [if_neg, Fr.refl]
          · intro w5 hS
            rintro _ rfl _ rfl _ rfl _ rfl _ rfl _ rfl _ rfl _ rfl _ rfl _ rfl _ rfl _ rfl _ rfl _ rfl _ rfl _ rfl _ rfl
            refine Rg.Then.nil ?_
            clear e2
            have HS := hid hS
            clear hS
            go_wp2
            go_roundw
            case rel => exact ⟨i + 1, by omega, by go_num, by rw [HE.out]; simp [ByteArray.mk_append_mk], HGR.out.trans HS.out (fun _ _ f => f)⟩
            case measure => simp [intOf]; omega
      · obtain rfl : i = ns.length := by omega
        rw [show B.take ns.length = B by rw [← HBL.out, List.take_length]]
        obtain ⟨s1, hs1⟩ : ∃ s : Str, s = [40, 108, 101, 116, 32, 40] ++ gl B := ⟨_, rfl⟩
        have hsl1 : s1.length = 6 + (gl B).length := by rw [hs1]; simp; omega
        have hv2 := hid (show form 9 t ns (txl l) = s1 ++ (41 :: 32 :: (y.tx ++ [41])) by rw [hv.out, hs1]; simp)
        rw [← hs1]
        obtain ⟨an2, cn2, aa2, ca2, he, hc⟩ := HEL.out ns.length y HY.out
        have c0 := HGr.out.cell he.c0 (fun f => f)
        have c1 := HGr.out.cell he.c1 (fun f => f)
        have c2 := HGr.out.cell he.c2 (fun f => f)
        have c3 := HGr.out.cell he.c3 (fun f => f)
        have e3 := HE3r.out
        have hcall := hc wr HGr.out
        have hil : ns.length < l.length := by have := HL9.out; omega
        clear hs1 he hc hgr
        go_wp2_with (go_at_call 44; (with_reducible refine hcall.mono ?_); rintro e w4 ⟨rfl, hg4⟩; clear hcall)
        go_ret
        exact ⟨by rw [hv2.out]; simp [ByteArray.mk_append_mk], HG.out.trans (HGR.out.trans hg4 (fun _ _ f => f)) (fun _ _ f => f)⟩
  by_cases k10 : k = 10
  · subst k10
    have hv := hid (show form 10 t ns (txl l) = 40 :: (t ++ 32 :: (gl (txl l) ++ [41])) from rfl)
    rw [hv.out] at hb
    simp only [List.length_append, List.length_cons, List.length_nil] at hb
    replace HRW := hid (HRW.out (by omega))
    go_upto_region 1 with (fail)
    rw [← hW]
    clear hW h6 h9 k3 k4 k6 k8 k9
    replace HE3 : Hid (W.cell? ⟨w'.heap.size, 3, none⟩ = some (.slice av l.length cap)) := HE3
    replace HE1 : Hid (W.cell? ⟨w'.heap.size, 1, none⟩ = some (St t)) := HE1
    go_wp2
    refine Rg.wp_region_facts 10 Grew [(79, Rg.Ex (.pointer (some ⟨w'.heap.size, 1, none⟩))), (80, Rg.Ex (.string ⟨t.toArray⟩)), (81, Rg.Ex (.string (⟨#[40]⟩ ++ ⟨t.toArray⟩))), (82, Rg.Ex (.string (⟨#[40]⟩ ++ ⟨t.toArray⟩ ++ ⟨#[32]⟩))), (83, Rg.Ex (.pointer (some ⟨w'.heap.size, 3, none⟩))), (84, Rg.Ex (.slice av l.length cap)), (85, Rg.Ex (.string ⟨(gl (txl l)).toArray⟩)), (86, Rg.Ex (.string (⟨#[40]⟩ ++ ⟨t.toArray⟩ ++ ⟨#[32]⟩ ++ ⟨(gl (txl l)).toArray⟩))), (87, Rg.Ex (.string (⟨#[40]⟩ ++ ⟨t.toArray⟩ ++ ⟨#[32]⟩ ++ ⟨(gl (txl l)).toArray⟩ ++ ⟨#[41]⟩))), (2, Rg.Ex (.string (⟨#[40]⟩ ++ ⟨t.toArray⟩ ++ ⟨#[32]⟩ ++ ⟨(gl (txl l)).toArray⟩ ++ ⟨#[41]⟩)))] (by kernel_rfl) (by kernel_rfl) (by rfl) (by rfl)
      (fun a => Fr.refl _ a) (fun a b c h k => h.trans k (fun _ _ f => f)) (Fr.refl _ _).drew
      (Rg.Stays.all ⟨Rg.Ex.stays _, Rg.Ex.stays _, Rg.Ex.stays _, Rg.Ex.stays _, Rg.Ex.stays _, Rg.Ex.stays _, Rg.Ex.stays _, Rg.Ex.stays _, Rg.Ex.stays _, Rg.Ex.stays _, trivial⟩) ?_ ?_
    · go_light
      refine Rg.OpGoals.cons (Rg.OpGoal.plain rfl ?_) (Rg.OpGoals.cons (Rg.OpGoal.plain rfl ?_) (Rg.OpGoals.cons (Rg.OpGoal.plain rfl ?_) (Rg.OpGoals.cons (Rg.OpGoal.plain rfl ?_) (Rg.OpGoals.cons (Rg.OpGoal.plain rfl ?_) (Rg.OpGoals.cons (Rg.OpGoal.plain rfl ?_) (Rg.OpGoals.cons (Rg.OpGoal.plain rfl ?_) (Rg.OpGoals.cons (Rg.OpGoal.plain rfl ?_) (Rg.OpGoals.cons (Rg.OpGoal.plain rfl ?_) (Rg.OpGoals.cons (Rg.OpGoal.plain rfl ?_) Rg.OpGoals.none)))))))))
      all_goals (intro a' w' hS hR; simp [Rg.Rd, Op.operands, Call.operands, Rg.Fk, Rg.Ex] at hR)
      all_goals (have e1' := hS.cell HE1.out (fun f => f))
      all_goals (have e3' := hS.cell HE3.out (fun f => f))
      all_goals try (simp [Rg.Yields, execOp, Act.eval, hR, e1', e3', go_sem, Rg.Fk, Rg.Ex, Fr.refl]; done)
      · simp [Rg.Yields, execOp, Act.eval, hR, go_sem, Rg.Fk, Rg.Ex]
        simp (disch := omega) [if_neg, Fr.refl]
      · simp [Rg.Yields, execOp, Act.eval, hR, go_sem, Rg.Fk, Rg.Ex]
        simp (disch := omega) [if_neg, Fr.refl]
      · simp [Rg.Yields, Act.eval, hR, go_sem, Rg.Fk, Rg.Ex]
        refine (HRW.out _ hS).mono ?_
        rintro e w2 ⟨rfl, hg2⟩
        exact ⟨_, rfl, rfl, hg2⟩
      · simp [Rg.Yields, execOp, Act.eval, hR, go_sem, Rg.Fk, Rg.Ex]
        simp (disch := omega) [if_neg, Fr.refl]
      · simp [Rg.Yields, execOp, Act.eval, hR, go_sem, Rg.Fk, Rg.Ex]
        simp (disch := omega) [if_neg, Fr.refl]
    · intro w5 hS
      rintro _ rfl _ rfl _ rfl _ rfl _ rfl _ rfl _ rfl _ rfl _ rfl _ rfl
      refine Rg.Then.nil ?_
      have HS := hid hS
      clear hS
      go_wp2
      go_ret
      exact ⟨by rw [hv.out]; simp [ByteArray.mk_append_mk], HG.out.trans HS.out (fun _ _ f => f)⟩
  by_cases k7 : k = 7
  · subst k7
    have hv := hid (show form 7 t ns (txl l) = 40 :: (gl (txl l) ++ [41]) from rfl)
    have e3 := HE3.out
    rw [hv.out] at hb
    simp only [List.length_append, List.length_cons, List.length_nil] at hb
    have hcall := HRW.out (by omega) W (Fr.refl _ _)
    clear HRW
    generalize gl (txl l) = s0 at *
    go_upto_region 1 with (fail)
    rw [← hW]
    clear hW h6 h9 k3 k4 k6 k8 k9 k10
    go_wp2_with (go_at_call 65; (with_reducible refine hcall.mono ?_); rintro e w4 ⟨rfl, hg4⟩; clear hcall)
    go_ret
    exact ⟨by rw [hv.out]; simp [ByteArray.mk_append_mk], HG.out.trans hg4 (fun _ _ f => f)⟩
  clear hb
  have hv := hid (show form k t ns (txl l) = t from by simp [form, k3, k4, k6, k8, k9, k10, k7])
  have e1 := HE1.out
  go_upto_region 1 with (fail)
  rw [← hW]
  clear hW h6 h9
  go_wp2
  go_ret
  exact ⟨congrArg (fun b => Ending.returned (St b)) hv.out.symm, HG.out⟩
/-- a term that may be written -/
inductive Wo : X → Prop
  | mk (k : Int) (t : Str) (ns : List Str) (a : List X) (h6 : k = 6 → a.length = 1) (h9 : k = 9 → a.length = ns.length + 1) (h8 : k = 8 ∨ k = 10 → a ≠ []) (h10 : k = 10 → t ≠ []) (h69 : k = 6 ∨ k = 9 → ns ≠ [] ∧ ∀ s ∈ ns, s ≠ [])
      (hn : ns.length ≤ 1000000) (ha : a.length ≤ 1000000) (h0 : form k t ns (txl a) ≠ []) (hb : (form k t ns (txl a)).length ≤ 1000000000000) (h : ∀ x ∈ a, Wo x) : Wo (.mk k t ns a)

theorem reftext_row {w : World} {D : Nat → Prop} {v : Value} {l : List X} (h : Row w D v l) : (∀ x ∈ l, Wo x) → l.length ≤ 1000000 → ∀ w', Grew w w' → ∀ (k : Int) (t : Str) (vn : Value) (ns : List Str), Nm w D vn ns → ns.length ≤ 1000000 →
    (k = 6 → l.length = 1) → (k = 9 → l.length = ns.length + 1) → (form k t ns (txl l)).length ≤ 1000000000000 →
    Calls Try.prog 44 #[.agg #[Kv k, St t, vn, v]] w' fun e w'' => e = .returned (St (form k t ns (txl l))) ∧ Grew w' w'' := by
  refine Row.ind (P := fun v l => (∀ x ∈ l, Wo x) → l.length ≤ 1000000 → ∀ w', Grew w w' → ∀ (k : Int) (t : Str) (vn : Value) (ns : List Str), Nm w D vn ns → ns.length ≤ 1000000 →
    (k = 6 → l.length = 1) → (k = 9 → l.length = ns.length + 1) → (form k t ns (txl l)).length ≤ 1000000000000 →
    Calls Try.prog 44 #[.agg #[Kv k, St t, vn, v]] w' fun e w'' => e = .returned (St (form k t ns (txl l))) ∧ Grew w' w'') ?_ ?_ h
  · intro ad cap _ hl w' hw k t vn ns hn hnl h6 h9 hb
    exact reftext_core (D := D) (l := []) (fun e => absurd rfl e) hl w' hw k t vn ns hn hnl h6 h9 hb
  · intro l g o cap _ _ _ H hs hl w' hw k t vn ns hn hnl h6 h9 hb
    refine reftext_core (D := D) (fun _ => ⟨g, o, rfl, fun i x hx => ?_⟩) hl w' hw k t vn ns hn hnl h6 h9 hb
    obtain ⟨an, cn, aa, ca, he, hc⟩ := H i x hx
    refine ⟨an, cn, aa, ca, he, fun w2 hg => ?_⟩
    have hwo := hs x (List.mem_of_getElem? hx)
    cases hwo with
    | mk k t ns a h6 h9 h8 h10 h69 hn ha h0 hb h => exact hc h ha w2 hg k t _ ns he.nm hn h6 h9 hb
/-- Text -/
theorem reftext_any {w : World} {D : Nat → Prop} {e : Value} {x : X} (h : Rd w D e x) (hx : Wo x) (w' : World) (hg : Grew w w') : Calls Try.prog 44 #[e] w' fun e w'' => e = .returned (St x.tx) ∧ Grew w' w'' := by
  obtain ⟨vn, va, rfl, hn, hr⟩ := h
  cases hx with
  | mk k t ns a h6 h9 h8 h10 h69 hnl ha h0 hb h => exact reftext_row hr h ha w' hg k t vn ns hn hnl h6 h9 hb
end Go.Proofs.Ytddcfnjmppijjaa
