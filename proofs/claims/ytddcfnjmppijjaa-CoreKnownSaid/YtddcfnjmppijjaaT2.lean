import Derived.Test.YtddcfnjmppijjaaT1
import Derived.Test.YtddcfnjmppijjaaA5
/-! core.Text: the pen writes a term. -/
namespace Go.Proofs.Ytddcfnjmppijjaa
open Go.RowKit

theorem Pen.grew {B b : Nat} {l : Str} {w w' : World} (h : Pen B b l w) (k : Grew w w') : Pen B b l w' := by
  have hh : ∀ p, Lib.BuilderAtF 107 5 B b p (Lib.byteCells l) w → Lib.BuilderAtF 107 5 B b p (Lib.byteCells l) w' := by
    rintro p ⟨hB, v, hb, hown, hne⟩
    refine ⟨hB, v, k.get hb (fun f => f), ⟨hown.1, ?_⟩, hne⟩
    rcases hown.2 with hn | ⟨g, cap, cur, fz, hv, hbg, hg, rest⟩
    · exact .inl hn
    · exact .inr ⟨g, cap, cur, fz, hv, hbg, k.get hg (fun f => f), rest⟩
  exact h.elim (fun x => .inl (hh _ x)) (fun x => .inr (hh _ x))
theorem Pen.lt {B b : Nat} {l : Str} {w : World} (h : Pen B b l w) : B ≤ b ∧ b < w.heap.size := by
  rcases h with ⟨hB, v, hb, -⟩ | ⟨hB, v, hb, -⟩
  · exact ⟨hB, lt_of_get hb⟩
  · exact ⟨hB, lt_of_get hb⟩
theorem grew_kept {w w' : World} (k : Grew w w') (b : Option Nat) : Lib.OthersKept 5 b w w' := fun _ _ h _ _ => k.get h (fun f => f)
theorem grew_below {w w' : World} (k : Grew w w') {B : Nat} (hB : B ≤ w.heap.size) : Below B w w' := k.below.mono hB
theorem below_fr {B : Nat} {w w' : World} (h : Below B w w') : Fr (fun k => B ≤ k) w w' := ⟨h.os, h.tape, h.output, h.size, fun k _ hk => h.block k (by omega)⟩

/-- what the pen did -/
structure Pd (B b : Nat) (t : Str) (w w' : World) : Prop where
  pen : Pen B b t w'
  below : Below B w w'
  kept : Lib.OthersKept 5 (some b) w w'
theorem Pd.trans {B b : Nat} {t t' : Str} {a c d : World} (h : Pd B b t a c) (k : Pd B b t' c d) : Pd B b t' a d := ⟨k.pen, h.below.trans k.below, h.kept.trans k.kept⟩
theorem Pd.first {B b : Nat} {t : Str} {a c d : World} (h : Grew a c) (hB : B ≤ a.heap.size) (k : Pd B b t c d) : Pd B b t a d := ⟨k.pen, (grew_below h hB).trans k.below, (grew_kept h _).trans k.kept⟩
theorem Pd.get {B b : Nat} {t : Str} {w w' : World} (h : Pd B b t w w') {g : Nat} {c : Array Value} {T : TypeId} {fz : Nat × Nat} (hg : w.heap[g]? = some (.cells c T fz)) (hb : g ≠ b) (hT : T ≠ 5) : w'.heap[g]? = some (.cells c T fz) :=
  h.kept g _ hg (fun e => hb (Option.some.inj e)) (fun _ _ e => by cases e; exact hT rfl)
theorem Pd.as {B b : Nat} {t t' : Str} {w w' : World} (h : Pd B b t w w') (e : t = t') : Pd B b t' w w' := e ▸ h

/-- WriteString -/
theorem put_pen {B b : Nat} {l : Str} {w : World} (h : Pen B b l w) (s : Str) (hl : l.length + s.length ≤ 100000000000000) :
    Calls Try.prog 89 #[.pointer (some ⟨b, 0, none⟩), St s] w fun e w' => ∃ v, e = .returned v ∧ Pd B b (l ++ s) w w' :=
  (write_pen (s := ⟨s.toArray⟩) h (by show l.length + s.toArray.size ≤ _; simp; omega) (by have := h.lt; omega)).mono fun e w' ⟨h1, h2, h3, h4⟩ => ⟨_, h1, by simpa using h2, h3, h4⟩

theorem join_gl (l : List Str) : Lib.join l [32] = gl l := by
  cases l with
  | nil => rfl
  | cons x r =>
    rw [Lib.join_cons]
    have : ∀ r : List Str, Lib.joinTail [32] r = gt r := by
      intro r
      induction r with
      | nil => rfl
      | cons y r ih =>
        have h := ih
        simp [Lib.joinTail] at h
        simp [Lib.joinTail, gt, h]
    simp [gl, this]
/-- Join -/
theorem join_any {w : World} {D : Nat → Prop} {g o cap : Nat} {l : List Str} (h : Nm w D (.slice (some ⟨g, o, none⟩) l.length cap) l) (h0 : l ≠ []) (hn : l.length ≤ 1000000) (hl : (gl l).length ≤ 100000000000000) (w' : World) (hg : Grew w w') :
    Calls Try.prog 112 #[.slice (some ⟨g, o, none⟩) l.length cap, .string ⟨#[32]⟩] w' fun e w'' => e = .returned (St (gl l)) ∧ Grew w' w'' := by
  obtain ⟨g', o', c', e, h1, h2, -, h3⟩ := (h.grew hg).row h0
  simp only [Value.slice.injEq, Option.some.injEq, Addr.mk.injEq] at e
  obtain ⟨⟨rfl, rfl, -⟩, -, rfl⟩ := e
  have hm : (l.map (fun s => (⟨s.toArray⟩ : ByteArray))).map (·.data.toList) = l := by
    rw [List.map_map]
    exact (List.map_congr_left (g := id) (fun s _ => by simp)).trans (List.map_id l)
  have hlt : g < w'.heap.size := by
    have hp : 0 < l.length := by cases l <;> simp_all
    exact World.block_lt_of_cell? w' _ (h3 0 _ (List.getElem?_eq_getElem hp))
  have hc := Try.strings_Join g o cap (l.map (fun s => (⟨s.toArray⟩ : ByteArray))) ⟨#[32]⟩ w' (fun j x hx => by
    rw [List.getElem?_map] at hx
    obtain ⟨s, hs, rfl⟩ := Option.map_eq_some_iff.1 hx
    exact h3 j s hs) hlt (by simp; omega) (by simpa using h1) (by
      rw [hm]
      show (Lib.join l [32]).length ≤ _
      rw [join_gl]; omega)
  rw [List.length_map, hm] at hc
  refine hc.mono ?_
  rintro e w2 ⟨rfl, hb⟩
  refine ⟨?_, below_grew hb⟩
  show Ending.returned (.string ⟨(Lib.join l [32]).toArray⟩) = _
  rw [join_gl]

set_option maxHeartbeats 4000000 in
set_option maxRecDepth 100000 in
/-- row -/
theorem row_pen {B b : Nat} {t0 : Str} {w : World} {D : Nat → Prop} {v : Value} {l : List Str} (hp : Pen B b t0 w) (hn : Nm w D v l) (h0 : l ≠ []) (hnl : l.length ≤ 1000000) (hl : t0.length + (gl l).length ≤ 100000000000000) :
    Calls Try.prog 90 #[.pointer (some ⟨b, 0, none⟩), v] w fun e w' => e = .returned (.tuple #[]) ∧ Pd B b (t0 ++ gl l) w w' := by
  obtain ⟨g, o, cap, rfl, -⟩ := hn.row h0
  have HJ := hid (join_any hn h0 hnl (by omega))
  have HW := hid (fun (w2 : World) (k : Grew w w2) => put_pen (hp.grew k) (gl l) hl)
  have HB := hid hp.lt
  clear hp hn h0 hl
  go_enter Try.func90, Try.ntmps90
  go_wp2
  refine Rg.wp_region_facts 5 Grew [(4, Rg.Ex (.pointer (some ⟨b, 0, none⟩))), (5, Rg.Ex (.pointer (some ⟨b, 0, none⟩))), (6, Rg.Ex (.pointer (some ⟨b, 0, none⟩))), (7, Rg.Ex (.slice (some ⟨g, o, none⟩) l.length cap)), (8, Rg.Ex (St (gl l)))] (by kernel_rfl) (by kernel_rfl) (by rfl) (by rfl)
    (fun a => Fr.refl _ a) (fun a b c h k => h.trans k (fun _ _ f => f)) (Fr.refl _ _).drew
    (Rg.Stays.all ⟨Rg.Ex.stays _, Rg.Ex.stays _, Rg.Ex.stays _, Rg.Ex.stays _, Rg.Ex.stays _, trivial⟩) ?_ ?_
  · go_light
    refine Rg.OpGoals.cons (Rg.OpGoal.plain rfl ?_) (Rg.OpGoals.cons (Rg.OpGoal.plain rfl ?_) (Rg.OpGoals.cons (Rg.OpGoal.plain rfl ?_) (Rg.OpGoals.cons (Rg.OpGoal.plain rfl ?_) (Rg.OpGoals.cons (Rg.OpGoal.plain rfl ?_) Rg.OpGoals.none))))
    all_goals (intro a' w' hS hR; simp [Rg.Rd, Op.operands, Call.operands, Rg.Fk, Rg.Ex] at hR)
    all_goals try (simp [Rg.Yields, execOp, Act.eval, hR, go_sem, Rg.Fk, Rg.Ex, Fr.refl]; done)
    · simp [Rg.Yields, Act.eval, hR, go_sem, Rg.Fk, Rg.Ex]
      refine (HJ.out _ hS).mono ?_
      rintro e w2 ⟨rfl, hg2⟩
      exact ⟨_, rfl, rfl, hg2⟩
  · intro w5 hS
    rintro _ rfl _ rfl _ rfl _ rfl _ rfl
    refine Rg.Then.nil ?_
    have hw := HW.out w5 hS
    have HS := hid hS
    clear hS
    go_wp2_with (go_at_call 89; (with_reducible refine hw.mono ?_); rintro e w6 ⟨v, rfl, hpd⟩; clear hw)
    go_end0
    exact ⟨rfl, hpd.first HS.out (by have := HB.out; omega)⟩

theorem nm_one2 {w : World} {D : Nat → Prop} {g : Nat} {s : Str} (h : w.heap[g]? = some (.cells #[St s] 9 (0, 0))) (hD : ¬ D g) : Nm w D (.slice (some ⟨g, 0, none⟩) 1 1) [s] :=
  ⟨_, 1, rfl, Nat.le_refl _, by simp [maxLen], .inr ⟨g, 0, rfl, hD, fun i hi => by
    obtain rfl : i = 0 := by simp at hi; omega
    rw [Nat.zero_add, cell_of_get h]; rfl⟩⟩
theorem gl_one (s : Str) : gl [s] = s := by simp [gl, gt]
/-- row of one text that was just put together -/
theorem row_one_pen {B b : Nat} {t0 : Str} {w : World} (hp : Pen B b t0 w) (s : Str) (c : UInt8) (hl : t0.length + 1 + s.length ≤ 100000000000000) :
    Calls Try.prog 90 #[.pointer (some ⟨b, 0, none⟩), .slice (some ⟨w.heap.size, 0, none⟩) 1 1] (w.alloc (.cells #[.string ((⟨#[c]⟩ : ByteArray) ++ ⟨s.toArray⟩)] 9)) fun e w' => e = .returned (.tuple #[]) ∧ Pd B b (t0 ++ c :: s) w w' := by
  have he : (⟨#[c]⟩ : ByteArray) ++ ⟨s.toArray⟩ = ⟨(c :: s).toArray⟩ := by simp [ByteArray.mk_append_mk]
  rw [he]
  refine (row_pen (D := fun _ => False) (hp.alloc _) (nm_one2 (heap_alloc_new w _) (fun f => f)) (by simp) (by simp) (by rw [gl_one]; simp; omega)).mono ?_
  rintro e w2 ⟨rfl, hpd⟩
  rw [gl_one] at hpd
  exact ⟨rfl, hpd.first ((Fr.refl _ _).alloc _) (by have := hp.lt; omega)⟩

/-- a row of terms that write writes, in whatever world the pen leaves -/
def Lst (B b : Nat) (w : World) (av : Option Addr) (l : List X) : Prop :=
  l ≠ [] → ∃ g o, av = some ⟨g, o, none⟩ ∧ ∀ i x, l[i]? = some x → ∃ an cn aa ca, ∀ w2, Below B w w2 → Lib.OthersKept 5 (some b) w w2 →
    (w2.cell? ⟨g, o + i * 4, none⟩ = some (Kv x.kind) ∧ w2.cell? ⟨g, o + i * 4 + 1, none⟩ = some (St x.text) ∧ w2.cell? ⟨g, o + i * 4 + 2, none⟩ = some (.slice an x.names.length cn) ∧ w2.cell? ⟨g, o + i * 4 + 3, none⟩ = some (.slice aa x.parts.length ca)) ∧
    ∀ t0, Pen B b t0 w2 → t0.length + x.tx.length ≤ 2000000000000 → Calls Try.prog 63 #[.pointer (some ⟨b, 0, none⟩), .agg #[Kv x.kind, St x.text, .slice an x.names.length cn, .slice aa x.parts.length ca]] w2 fun e w3 => e = .returned (.tuple #[]) ∧ Pd B b (t0 ++ x.tx) w2 w3

theorem gt_len_take (l : List Str) (i : Nat) : (gt (l.take i)).length ≤ (gt l).length := by
  induction l generalizing i with
  | nil => simp
  | cons x r ih =>
    cases i with
    | zero => simp [gt]
    | succ i => have := ih i; simp only [List.take_succ_cons, gt, List.length_cons, List.length_append]; omega
theorem gl_le_gt (l : List Str) : (gl l).length ≤ (gt l).length := by
  cases l with
  | nil => simp [gl, gt]
  | cons x r => simp only [gl, gt, List.length_cons, List.length_append]; omega

/-- list's text: the word, the terms -/
def lt (word : Str) (l : List Str) : Str := if word.isEmpty then gl l else gt l
theorem lt_len_take (word : Str) (l : List Str) (i : Nat) : (lt word (l.take i)).length ≤ (lt word l).length := by
  unfold lt
  split
  · exact gl_len_take l i
  · exact gt_len_take l i
theorem lt_step {word : Str} {l : List Str} {i : Nat} {t : Str} (h : l[i]? = some t) (hb : 0 < i ∨ word.isEmpty = false) : lt word (l.take (i + 1)) = lt word (l.take i) ++ 32 :: t := by
  unfold lt
  split
  · rename_i he
    rcases hb with hb | hb
    · exact gl_take h hb
    · rw [hb] at he; cases he
  · exact gt_take h
theorem lt_step0 {word : Str} {l : List Str} {t : Str} (h : l[0]? = some t) (he : word.isEmpty = true) : lt word (l.take 1) = t := by
  unfold lt
  rw [if_pos he, gl_take0 h]
theorem lt_zero (word : Str) (l : List Str) : lt word (l.take 0) = [] := by
  unfold lt
  split <;> rfl

set_option maxHeartbeats 8000000 in
set_option maxRecDepth 100000 in
/-- list -/
theorem list_pen {B b : Nat} {t0 : Str} {w : World} {av : Option Addr} {l : List X} {cap : Nat} (word : Str) (hp : Pen B b t0 w) (H : Lst B b w av l) (hl : l.length ≤ 1000000) (hlen : t0.length + (word.length + ((lt word (txl l)).length + 2)) ≤ 2000000000000) :
    Calls Try.prog 91 #[.pointer (some ⟨b, 0, none⟩), St word, .slice av l.length cap] w fun e w' => e = .returned (.tuple #[]) ∧ Pd B b (t0 ++ (40 :: (word ++ (lt word (txl l) ++ [41])))) w w' := by
  have hrow := row_one_pen hp word 40 (by omega)
  have HH := hid H
  have HB := hid hp.lt
  have hwl : word.length ≤ 2000000000000 := by omega
  clear H
  go_enter Try.func91, Try.ntmps91
  go_wp2_with (go_at_call 90; (with_reducible refine hrow.mono ?_); rintro e w1 ⟨rfl, hpd⟩; clear hrow hp)
  have HPD := hid hpd
  clear hpd
  go_loopw [15] (fun a wr => ∃ i : Nat, i ≤ l.length ∧ a = .int .i64 i ∧ Pd B b (t0 ++ 40 :: (word ++ lt word ((txl l).take i))) w wr) (fun i _ => l.length - (intOf i).toNat)
  case atStart => exact ⟨0, Nat.zero_le _, rfl, HPD.out.as (by rw [lt_zero]; simp)⟩
  case round =>
    obtain ⟨i, hi, rfl, hpd⟩ := hrel
    have HP := hid hpd
    have hll := lt_len_take word (txl l) i
    have hsz : b < wr.heap.size := hpd.pen.lt.2
    by_cases hlt : i < l.length
    · obtain ⟨x, hx⟩ := at_of_lt hlt
      obtain ⟨g, o, rfl, hel⟩ := HH.out (fun e => by rw [e] at hlt; simp at hlt)
      obtain ⟨an, cn, aa, ca, hc⟩ := hel i x hx
      obtain ⟨⟨c0, c1, c2, c3⟩, -⟩ := hc wr hpd.below hpd.kept
      have hgr : Grew wr (wr.alloc (.cells #[Kv x.kind, St x.text, .slice an x.names.length cn, .slice aa x.parts.length ca] 28)) := (Fr.refl _ _).alloc _
      have hbk := heap_alloc_new wr (.cells #[Kv x.kind, St x.text, .slice an x.names.length cn, .slice aa x.parts.length ca] 28)
      have hxt := txl_get hx
      have hll2 := lt_len_take word (txl l) (i + 1)
      by_cases hbl : 0 < i ∨ word.isEmpty = false
      · have hst := lt_step hxt hbl
        rw [hst] at hll2
        simp only [List.length_append, List.length_cons] at hll2
        have hput := put_pen (hpd.pen.grew hgr) [32] (by simp; omega)
        have HC := hid (fun (w2 : World) (k : Pd B b (t0 ++ 40 :: (word ++ lt word ((txl l).take i)) ++ [32]) (wr.alloc (.cells #[Kv x.kind, St x.text, .slice an x.names.length cn, .slice aa x.parts.length ca] 28)) w2) => (hc w2 (hpd.below.trans (k.first hgr (by have := HB.out; omega)).below) (hpd.kept.trans (k.first hgr (by have := HB.out; omega)).kept)).2 _ k.pen (by simp; omega))
        have HBK := hid (fun (w2 : World) (k : Pd B b (t0 ++ 40 :: (word ++ lt word ((txl l).take i)) ++ [32]) (wr.alloc (.cells #[Kv x.kind, St x.text, .slice an x.names.length cn, .slice aa x.parts.length ca] 28)) w2) => k.get hbk (by omega) (by decide))
        have HST := hid (fun (w2 w3 : World) (k : Pd B b (t0 ++ 40 :: (word ++ lt word ((txl l).take i)) ++ [32]) (wr.alloc (.cells #[Kv x.kind, St x.text, .slice an x.names.length cn, .slice aa x.parts.length ca] 28)) w2) (k' : Pd B b (t0 ++ 40 :: (word ++ lt word ((txl l).take i)) ++ [32] ++ x.tx) w2 w3) =>
          ((hpd.trans ((k.trans k').first hgr (by have := HB.out; omega))).as (show _ = t0 ++ 40 :: (word ++ lt word ((txl l).take (i + 1))) by rw [hst]; simp)))
        clear hst hc hel hx hxt hpd hgr hbk hll hll2
        by_cases hi0 : 0 < i
        · have hi0' : (0 : Int) < (i : Int) := by omega
          clear hbl
          go_wp2_with (first | (go_at_call 89; (with_reducible refine hput.mono ?_); rintro e w2 ⟨v2, rfl, hp2⟩; clear hput; have hcall := HC.out w2 hp2; have d0 := cell_of_get (HBK.out w2 hp2) 0; have d1 := cell_of_get (HBK.out w2 hp2) 1; have d2 := cell_of_get (HBK.out w2 hp2) 2; have d3 := cell_of_get (HBK.out w2 hp2) 3; have HP2 := hid hp2; clear hp2 c0 c1 c2 c3) | (go_at_call 63; (with_reducible refine hcall.mono ?_); rintro e w3 ⟨rfl, hp3⟩; clear hcall d0 d1 d2 d3; have HP3 := hid hp3; clear hp3))
          go_roundw
          case rel => exact ⟨i + 1, by omega, by go_num, HST.out _ _ HP2.out HP3.out⟩
          case measure => simp [intOf]; omega
        · have he : word.isEmpty = false := hbl.resolve_left hi0
          have hi0' : ¬ (0 : Int) < (i : Int) := by omega
          clear hbl
          go_wp2_with (first | (go_at_call 89; (with_reducible refine hput.mono ?_); rintro e w2 ⟨v2, rfl, hp2⟩; clear hput; have hcall := HC.out w2 hp2; have d0 := cell_of_get (HBK.out w2 hp2) 0; have d1 := cell_of_get (HBK.out w2 hp2) 1; have d2 := cell_of_get (HBK.out w2 hp2) 2; have d3 := cell_of_get (HBK.out w2 hp2) 3; have HP2 := hid hp2; clear hp2 c0 c1 c2 c3) | (go_at_call 63; (with_reducible refine hcall.mono ?_); rintro e w3 ⟨rfl, hp3⟩; clear hcall d0 d1 d2 d3; have HP3 := hid hp3; clear hp3))
          go_roundw
          case rel => exact ⟨i + 1, by omega, by go_num, HST.out _ _ HP2.out HP3.out⟩
          case measure => simp [intOf]; omega
      · have he : word.isEmpty = true := by
          cases h : word.isEmpty
          · exact absurd (.inr h) hbl
          · rfl
        have hi00 : i = 0 := by omega
        have hi0' : ¬ (0 : Int) < (i : Int) := by omega
        have hz : lt word ((txl l).take i) = [] := by rw [hi00]; exact lt_zero _ _
        have hst : lt word ((txl l).take (i + 1)) = x.tx := by rw [hi00] at hxt ⊢; exact lt_step0 hxt he
        rw [hst] at hll2
        have hzl : (lt word ((txl l).take i)).length = 0 := by rw [hz]; rfl
        have hcall := (hc (wr.alloc (.cells #[Kv x.kind, St x.text, .slice an x.names.length cn, .slice aa x.parts.length ca] 28)) (hpd.below.trans (grew_below hgr (by have := HB.out; omega))) (hpd.kept.trans (grew_kept hgr _))).2 _ (hpd.pen.grew hgr) (by simp; omega)
        have HST := hid (fun (w3 : World) (k' : Pd B b (t0 ++ 40 :: (word ++ lt word ((txl l).take i)) ++ x.tx) (wr.alloc (.cells #[Kv x.kind, St x.text, .slice an x.names.length cn, .slice aa x.parts.length ca] 28)) w3) =>
          ((hpd.trans (k'.first hgr (by have := HB.out; omega))).as (show _ = t0 ++ 40 :: (word ++ lt word ((txl l).take (i + 1))) by rw [hst, hz]; simp)))
        clear hst hz hc hel hx hxt hpd hgr hbk hll hll2 hbl hi00 hzl
        go_wp2_with (go_at_call 63; (with_reducible refine hcall.mono ?_); rintro e w3 ⟨rfl, hp3⟩; clear hcall; have HP3 := hid hp3; clear hp3)
        go_roundw
        case rel => exact ⟨i + 1, by omega, by go_num, HST.out _ HP3.out⟩
        case measure => simp [intOf]; omega
    · obtain rfl : i = l.length := by omega
      have hput := put_pen hpd.pen [41] (by simp; omega)
      have HST := hid (fun (w2 : World) (k : Pd B b (t0 ++ 40 :: (word ++ lt word ((txl l).take l.length)) ++ [41]) wr w2) => ((hpd.trans k).as (show _ = t0 ++ (40 :: (word ++ (lt word (txl l) ++ [41]))) by rw [← txl_length l, List.take_length]; simp)))
      clear hpd hll
      go_wp2_with (go_at_call 89; (with_reducible refine hput.mono ?_); rintro e w2 ⟨v2, rfl, hp2⟩; clear hput)
      go_end0
      exact ⟨rfl, HST.out _ hp2⟩

theorem gt_gl {l : List Str} (h : l ≠ []) : gt l = 32 :: gl l := by
  cases l with
  | nil => exact absurd rfl h
  | cons x r => rfl
theorem txl_ne {l : List X} (h : l ≠ []) : txl l ≠ [] := by
  cases l with
  | nil => exact absurd rfl h
  | cons x r => simp [txl]

/-- list, of one term that was just put into a row -/
theorem list_one {B b : Nat} {t0 : Str} {w : World} {x : X} {an aa : Option Addr} {cn ca : Nat} (n : Str) (hn0 : n ≠ []) (hp : Pen B b t0 w)
    (hc : ∀ w3, Below B w w3 → Lib.OthersKept 5 (some b) w w3 → ∀ t0, Pen B b t0 w3 → t0.length + x.tx.length ≤ 2000000000000 → Calls Try.prog 63 #[.pointer (some ⟨b, 0, none⟩), .agg #[Kv x.kind, St x.text, .slice an x.names.length cn, .slice aa x.parts.length ca]] w3 fun e w4 => e = .returned (.tuple #[]) ∧ Pd B b (t0 ++ x.tx) w3 w4)
    (hlen : t0.length + (n.length + (x.tx.length + 3)) ≤ 2000000000000) :
    Calls Try.prog 91 #[.pointer (some ⟨b, 0, none⟩), St n, .slice (some ⟨w.heap.size, 0, none⟩) 1 1] (w.alloc (.cells #[Kv x.kind, St x.text, .slice an x.names.length cn, .slice aa x.parts.length ca] 28)) fun e w' => e = .returned (.tuple #[]) ∧ Pd B b (t0 ++ (40 :: (n ++ 32 :: (x.tx ++ [41])))) w w' := by
  have hB := hp.lt
  have hg : Grew w (w.alloc (.cells #[Kv x.kind, St x.text, .slice an x.names.length cn, .slice aa x.parts.length ca] 28)) := (Fr.refl _ _).alloc _
  have hL : Lst B b (w.alloc (.cells #[Kv x.kind, St x.text, .slice an x.names.length cn, .slice aa x.parts.length ca] 28)) (some ⟨w.heap.size, 0, none⟩) [x] := by
    intro _
    refine ⟨w.heap.size, 0, rfl, fun i y hy => ?_⟩
    obtain ⟨hi, rfl⟩ := List.getElem?_eq_some_iff.1 hy
    obtain rfl : i = 0 := by simp at hi; omega
    refine ⟨an, cn, aa, ca, fun w2 hb hk => ⟨?_, fun t1 hp1 hl1 => hc w2 ((grew_below hg (by omega)).trans hb) ((grew_kept hg _).trans hk) t1 hp1 hl1⟩⟩
    have hbk := hk w.heap.size _ (heap_alloc_new w _) (fun e => by have := Option.some.inj e; omega) (fun _ _ e => by cases e)
    exact ⟨cell_of_get hbk 0, cell_of_get hbk 1, cell_of_get hbk 2, cell_of_get hbk 3⟩
  have hgt : gt (txl [x]) = 32 :: x.tx := by simp [txl, gt]
  have hne : n.isEmpty = false := by
    cases n with
    | nil => exact absurd rfl hn0
    | cons c r => rfl
  have hlt : lt n (txl [x]) = 32 :: x.tx := by simp [lt, hne, hgt]
  refine (list_pen (cap := 1) n (hp.grew hg) hL (by simp) (by rw [hlt]; simp; omega)).mono ?_
  rintro e w' ⟨rfl, hpd⟩
  exact ⟨rfl, (hpd.first hg (by omega)).as (by simp [lt, hne, hgt])⟩

set_option maxHeartbeats 8000000 in
set_option maxRecDepth 100000 in
/-- write, of a term's parts -/
theorem write_core {B b : Nat} {t0 : Str} {w' : World} {an aa : Option Addr} {cn ca : Nat} {k : Int} {t : Str} {ns : List Str} {l : List X} (hp : Pen B b t0 w') (hwo : Wo (.mk k t ns l)) (hn : Nm w' (fun k => B ≤ k) (.slice an ns.length cn) ns)
    (HL : ∀ W, Below B w' W → Lst B b W aa l) (hlen : t0.length + (form k t ns (txl l)).length ≤ 2000000000000) :
    Calls Try.prog 63 #[.pointer (some ⟨b, 0, none⟩), .agg #[Kv k, St t, .slice an ns.length cn, .slice aa l.length ca]] w' fun e w'' => e = .returned (.tuple #[]) ∧ Pd B b (t0 ++ form k t ns (txl l)) w' w'' := by
  obtain ⟨h6, h9, h8, h10, h69, hnl, hal⟩ : (k = 6 → l.length = 1) ∧ (k = 9 → l.length = ns.length + 1) ∧ (k = 8 ∨ k = 10 → l ≠ []) ∧ (k = 10 → t ≠ []) ∧ (k = 6 ∨ k = 9 → ns ≠ [] ∧ ∀ s ∈ ns, s ≠ []) ∧ ns.length ≤ 1000000 ∧ l.length ≤ 1000000 := by
    cases hwo with
    | mk _ _ _ _ h6 h9 h8 h10 h69 hn ha => exact ⟨h6, h9, h8, h10, h69, hn, ha⟩
  have hB := hp.lt
  obtain ⟨W, hW⟩ : ∃ q : World, q = w'.alloc (.cells #[Kv k, St t, .slice an ns.length cn, .slice aa l.length ca] 28) := ⟨_, rfl⟩
  have gW : Grew w' W := by rw [hW]; exact (Fr.refl _ _).alloc _
  have hbk : W.heap[w'.heap.size]? = some (.cells #[Kv k, St t, .slice an ns.length cn, .slice aa l.length ca] 28 (0, 0)) := by rw [hW]; exact heap_alloc_new w' _
  have hpW := hp.grew gW
  have e0 := cell_of_get hbk 0
  have HE1 := hid (cell_of_get hbk 1)
  have HE2 := hid (cell_of_get hbk 2)
  have HE3 := hid (cell_of_get hbk 3)
  have HBOX := hid (fun (t1 : Str) (w2 : World) (K : Pd B b t1 W w2) => And.intro (cell_of_get (K.get hbk (by omega) (by decide)) 2) (cell_of_get (K.get hbk (by omega) (by decide)) 3))
  have HNM := hid (fun (t1 : Str) (w2 : World) (K : Pd B b t1 W w2) => hn.kept (below_fr ((grew_below gW (by omega)).trans K.below)) (fun _ e => e))
  have HLW := hid (HL W (grew_below gW (by omega)))
  have HFI := hid (fun (t1 : Str) (w2 : World) (K : Pd B b t1 W w2) => K.first gW (by omega))
  have HBS := hid hB
  clear hp hwo hn HL hB gW hbk
  go_enter Try.func63, Try.ntmps63
  by_cases k3 : k = 3
  · subst k3
    have hput := put_pen hpW [40, 41] (by simp; omega)
    clear hpW hlen h6 h9 h8 h10 h69
    go_upto_region 1 with (fail)
    rw [← hW]
    clear hW
    go_wp2_with (go_at_call 89; (with_reducible refine hput.mono ?_); rintro e w2 ⟨v2, rfl, hp2⟩; clear hput)
    go_end0
    exact ⟨rfl, HFI.out _ _ hp2⟩
  by_cases k4 : k = 4
  · subst k4
    have hv : form 4 t ns (txl l) = 39 :: t := rfl
    rw [hv] at hlen ⊢
    simp only [List.length_cons] at hlen
    have hrow := row_one_pen hpW t 39 (by omega)
    have e1 := HE1.out
    have hb1 : t.length ≤ 2000000000000 := by omega
    clear hpW h6 h9 h8 h10 h69 hv
    go_upto_region 1 with (fail)
    rw [← hW]
    clear hW hlen
    go_wp2_with (go_at_call 90; (with_reducible refine hrow.mono ?_); rintro e w2 ⟨rfl, hp2⟩; clear hrow)
    go_end0
    exact ⟨rfl, HFI.out _ _ hp2⟩
  by_cases k6 : k = 6
  · subst k6
    have hl1 : l.length = 1 := h6 rfl
    obtain ⟨hns, -⟩ := h69 (.inl rfl)
    obtain ⟨x, rfl⟩ : ∃ x, l = [x] := by
      match l, hl1 with
      | [x], _ => exact ⟨x, rfl⟩
    obtain ⟨g, o, rfl, hel⟩ := HLW.out (by simp)
    rw [List.length_singleton] at hW
    obtain ⟨an2, cn2, aa2, ca2, hc⟩ := hel 0 x rfl
    simp only [Nat.zero_mul, Nat.add_zero] at hc
    have hv : form 6 t ns (txl [x]) = [40, 108, 97, 109, 98, 100, 97, 32, 40] ++ (gl ns ++ (41 :: 32 :: (x.tx ++ [41]))) := rfl
    rw [hv] at hlen ⊢
    simp only [List.length_append, List.length_cons, List.length_nil] at hlen
    have hput := put_pen hpW [40, 108, 97, 109, 98, 100, 97, 32, 40] (by simp; omega)
    have HROW := hid (fun (w2 : World) (K : Pd B b (t0 ++ [40, 108, 97, 109, 98, 100, 97, 32, 40]) W w2) => row_pen K.pen (HNM.out _ _ K) hns hnl (by simp; omega))
    have HPUT2 := hid (fun (w2 : World) (K : Pd B b (t0 ++ [40, 108, 97, 109, 98, 100, 97, 32, 40] ++ gl ns) W w2) => put_pen K.pen [41, 32] (by simp; omega))
    have HCALL := hid (fun (w2 : World) (K : Pd B b (t0 ++ [40, 108, 97, 109, 98, 100, 97, 32, 40] ++ gl ns ++ [41, 32]) W w2) => And.intro (hc w2 K.below K.kept).1 ((hc w2 K.below K.kept).2 _ K.pen (by simp; omega)))
    have HPUT3 := hid (fun (w2 : World) (K : Pd B b (t0 ++ [40, 108, 97, 109, 98, 100, 97, 32, 40] ++ gl ns ++ [41, 32] ++ x.tx) W w2) => put_pen K.pen [41] (by simp; omega))
    have HEND := hid (fun (w2 : World) (K : Pd B b (t0 ++ [40, 108, 97, 109, 98, 100, 97, 32, 40] ++ gl ns ++ [41, 32] ++ x.tx ++ [41]) W w2) => (HFI.out _ _ K).as (show _ = t0 ++ ([40, 108, 97, 109, 98, 100, 97, 32, 40] ++ (gl ns ++ (41 :: 32 :: (x.tx ++ [41])))) by simp))
    clear hpW h6 h9 h8 h10 h69 hv hl1 hel hc k3 k4 hlen
    go_upto_region 1 with (fail)
    rw [← hW]
    clear hW
    replace HBOX : Hid (∀ (t1 : Str) (w2 : World), Pd B b t1 W w2 → w2.cell? ⟨w'.heap.size, 2, none⟩ = some (.slice an ns.length cn) ∧ w2.cell? ⟨w'.heap.size, 3, none⟩ = some (.slice (some ⟨g, o, none⟩) 1 ca)) := HBOX
    go_wp2_with (first
      | (go_at_call 89; (with_reducible refine hput.mono ?_); rintro e w2 ⟨v2, rfl, hp2⟩; clear hput; have hrow := HROW.out w2 hp2; have e2 := (HBOX.out _ _ hp2).1; have HP2 := hid hp2; clear hp2 HROW)
      | (go_at_call 90; (with_reducible refine hrow.mono ?_); rintro e w3 ⟨rfl, hp3⟩; clear hrow e2; have HP3 := hid (HP2.out.trans hp3); have hput2 := HPUT2.out _ HP3.out; clear hp3 HPUT2)
      | (go_at_call 89; (with_reducible refine hput2.mono ?_); rintro e w4 ⟨v4, rfl, hp4⟩; clear hput2; have HP4 := hid (HP3.out.trans hp4); obtain ⟨⟨c0, c1, c2, c3⟩, hcall⟩ := HCALL.out _ HP4.out; have e3 := (HBOX.out _ _ HP4.out).2; clear hp4 HCALL)
      | (go_at_call 63; (with_reducible refine hcall.mono ?_); rintro e w5 ⟨rfl, hp5⟩; clear hcall c0 c1 c2 c3 e3; have HP5 := hid (HP4.out.trans hp5); have hput3 := HPUT3.out _ HP5.out; clear hp5 HPUT3)
      | (go_at_call 89; (with_reducible refine hput3.mono ?_); rintro e w6 ⟨v6, rfl, hp6⟩; clear hput3; have HP6 := hid (HP5.out.trans hp6); clear hp6))
    go_end0
    exact ⟨rfl, HEND.out _ HP6.out⟩
  by_cases k7 : k = 7
  · subst k7
    have hv : form 7 t ns (txl l) = 40 :: (gl (txl l) ++ [41]) := rfl
    rw [hv] at hlen ⊢
    simp only [List.length_append, List.length_cons, List.length_nil] at hlen
    have hgl : (lt [] (txl l)).length = (gl (txl l)).length := rfl
    have hcall := list_pen (cap := ca) [] hpW HLW.out hal (by rw [hgl]; simp; omega)
    rw [show ([] : Str) ++ (lt [] (txl l) ++ [41]) = gl (txl l) ++ [41] from rfl] at hcall
    have e3 := HE3.out
    clear hpW h6 h9 h8 h10 h69 hv k3 k4 k6 hlen hgl
    go_upto_region 1 with (fail)
    rw [← hW]
    clear hW
    go_wp2_with (go_at_call 91; (with_reducible refine hcall.mono ?_); rintro e w2 ⟨rfl, hp2⟩; clear hcall)
    go_end0
    exact ⟨rfl, HFI.out _ _ hp2⟩
  by_cases k8 : k = 8
  · subst k8
    have hv : form 8 t ns (txl l) = [40, 105, 102, 32] ++ (gl (txl l) ++ [41]) := rfl
    rw [hv] at hlen ⊢
    simp only [List.length_append, List.length_cons, List.length_nil] at hlen
    have hgl : (lt [105, 102] (txl l)).length = (gl (txl l)).length + 1 := by simp [lt, gt_gl (txl_ne (h8 (.inl rfl)))]
    have hcall := list_pen (cap := ca) [105, 102] hpW HLW.out hal (by rw [hgl]; simp; omega)
    rw [show (40 :: (([105, 102] : Str) ++ (lt [105, 102] (txl l) ++ [41]))) = [40, 105, 102, 32] ++ (gl (txl l) ++ [41]) by simp [lt, gt_gl (txl_ne (h8 (.inl rfl)))]] at hcall
    have e3 := HE3.out
    clear hpW h6 h9 h8 h10 h69 hv k3 k4 k6 k7 hlen hgl
    go_upto_region 1 with (fail)
    rw [← hW]
    clear hW
    go_wp2_with (go_at_call 91; (with_reducible refine hcall.mono ?_); rintro e w2 ⟨rfl, hp2⟩; clear hcall)
    go_end0
    exact ⟨rfl, HFI.out _ _ hp2⟩
  by_cases k10 : k = 10
  · subst k10
    have hv : form 10 t ns (txl l) = 40 :: (t ++ 32 :: (gl (txl l) ++ [41])) := rfl
    rw [hv] at hlen ⊢
    simp only [List.length_append, List.length_cons, List.length_nil] at hlen
    have hte : t.isEmpty = false := by
      cases t with
      | nil => exact absurd rfl (h10 rfl)
      | cons c r => rfl
    have hgl : (lt t (txl l)).length = (gl (txl l)).length + 1 := by simp [lt, hte, gt_gl (txl_ne (h8 (.inr rfl)))]
    have hcall := list_pen (cap := ca) t hpW HLW.out hal (by rw [hgl]; omega)
    rw [show (40 :: (t ++ (lt t (txl l) ++ [41]))) = 40 :: (t ++ 32 :: (gl (txl l) ++ [41])) by simp [lt, hte, gt_gl (txl_ne (h8 (.inr rfl)))]] at hcall
    have e3 := HE3.out
    have e1 := HE1.out
    clear hpW h6 h9 h8 h10 h69 hv k3 k4 k6 k7 k8 hlen hgl hte
    go_upto_region 1 with (fail)
    rw [← hW]
    clear hW
    go_wp2_with (go_at_call 91; (with_reducible refine hcall.mono ?_); rintro e w2 ⟨rfl, hp2⟩; clear hcall)
    go_end0
    exact ⟨rfl, HFI.out _ _ hp2⟩
  by_cases k9 : k = 9
  · subst k9
    have hl9 : l.length = ns.length + 1 := h9 rfl
    obtain ⟨hns, hnn⟩ := h69 (.inr rfl)
    obtain ⟨g, o, rfl, hel⟩ := HLW.out (fun e => by rw [e] at hl9; simp at hl9)
    obtain ⟨Q, hQ⟩ : ∃ Q, bds ns (txl l) = Q := ⟨_, rfl⟩
    have hQl : Q.length = ns.length := by rw [← hQ]; exact bds_length _ _ (by rw [txl_length]; omega)
    have hQg : ∀ (i : Nat) (n : Str) (x : X), ns[i]? = some n → l[i]? = some x → Q[i]? = some (40 :: (n ++ 32 :: (x.tx ++ [41]))) := fun i n x h1 h2 => by rw [← hQ]; exact bds_get h1 (txl_get h2)
    obtain ⟨y, hy⟩ := at_of_lt (l := l) (i := ns.length) (by omega)
    have hv : form 9 t ns (txl l) = [40, 108, 101, 116, 32, 40] ++ (gl Q ++ (41 :: 32 :: (y.tx ++ [41]))) := by
      show [40, 108, 101, 116, 32, 40] ++ (gl (bds ns (txl l)) ++ (41 :: 32 :: (((txl l)[ns.length]?.getD []) ++ [41]))) = _
      rw [hQ, txl_get hy]; rfl
    rw [hv] at hlen ⊢
    simp only [List.length_append, List.length_cons, List.length_nil] at hlen
    have hput := put_pen hpW [40, 108, 101, 116, 32, 40] (by simp; omega)
    have HEND := hid (fun (w2 : World) (K : Pd B b (t0 ++ ([40, 108, 101, 116, 32, 40] ++ gl Q) ++ [41, 32] ++ y.tx ++ [41]) W w2) => (HFI.out _ _ K).as (show _ = t0 ++ ([40, 108, 101, 116, 32, 40] ++ (gl Q ++ (41 :: 32 :: (y.tx ++ [41])))) by simp))
    have HEL := hid hel
    have HQG := hid hQg
    have HQL := hid hQl
    have HY := hid hy
    have HL9 := hid hl9
    have HNN := hid hnn
    have HNS := hid hns
    have HLEN := hid hlen
    clear hpW h6 h9 h8 h10 h69 hv k3 k4 k6 k7 k8 k10 hl9 hns hnn hel hQg hQl hQ hy hlen
    go_upto_region 1 with (fail)
    rw [← hW]
    clear hW
    replace HBOX : Hid (∀ (t1 : Str) (w2 : World), Pd B b t1 W w2 → w2.cell? ⟨w'.heap.size, 2, none⟩ = some (.slice an ns.length cn) ∧ w2.cell? ⟨w'.heap.size, 3, none⟩ = some (.slice (some ⟨g, o, none⟩) l.length ca)) := HBOX
    go_wp2_with (go_at_call 89; (with_reducible refine hput.mono ?_); rintro e w2 ⟨v2, rfl, hp2⟩; clear hput; have HP2 := hid hp2; have e2 := (HBOX.out _ _ hp2).1; clear hp2)
    clear e2
    go_loopw [81] (fun a wr => ∃ i : Nat, i ≤ ns.length ∧ a = .int .i64 i ∧ Pd B b (t0 ++ ([40, 108, 101, 116, 32, 40] ++ gl (Q.take i))) W wr) (fun i _ => ns.length - (intOf i).toNat)
    case atStart => exact ⟨0, Nat.zero_le _, rfl, HP2.out.as (by simp [gl])⟩
    case round =>
      obtain ⟨i, hi, rfl, hpd⟩ := hrel
      have HP := hid hpd
      have hlp := gl_len_take Q i
      by_cases hlt : i < ns.length
      · obtain ⟨n, hn⟩ := at_of_lt hlt
        obtain ⟨x, hx⟩ := at_of_lt (l := l) (i := i) (by have := HL9.out; omega)
        obtain ⟨gn, on, cn', e, -, -, -, hnel⟩ := (HNM.out _ _ hpd).row HNS.out
        simp only [Value.slice.injEq] at e
        obtain ⟨rfl, -, rfl⟩ := e
        have n0 := hnel i n hn
        obtain ⟨an2, cn2, aa2, ca2, hc⟩ := HEL.out i x hx
        have hQi := HQG.out i n x hn hx
        have hn0 := HNN.out n (List.mem_of_getElem? hn)
        have hlen := HLEN.out
        have hil : i < l.length := by have := HL9.out; omega
        have hlp2 := gl_len_take Q (i + 1)
        by_cases hi0 : 0 < i
        · have hst := gl_take hQi hi0
          rw [hst] at hlp2
          simp only [List.length_append, List.length_cons, List.length_nil] at hlp2
          have hput1 := put_pen hpd.pen [32] (by simp; omega)
          have HCALL := hid (fun (w2 : World) (K : Pd B b (t0 ++ ([40, 108, 101, 116, 32, 40] ++ gl (Q.take i)) ++ [32]) W w2) => And.intro (hc w2 K.below K.kept).1 (list_one (an := an2) (cn := cn2) (aa := aa2) (ca := ca2) n hn0 K.pen (fun w3 hb hk => (hc w3 (K.below.trans hb) (K.kept.trans hk)).2) (by simp; omega)))
          have HST := hid (fun (w2 : World) (K : Pd B b (t0 ++ ([40, 108, 101, 116, 32, 40] ++ gl (Q.take i)) ++ [32] ++ (40 :: (n ++ 32 :: (x.tx ++ [41])))) W w2) => K.as (show _ = t0 ++ ([40, 108, 101, 116, 32, 40] ++ gl (Q.take (i + 1))) by rw [hst]; simp))
          have hi0' : (0 : Int) < (i : Int) := by omega
          clear hc hQi hn0 hlen hlp hlp2 hst hn hx hnel hpd
          go_wp2_with (first
            | (go_at_call 89; (with_reducible refine hput1.mono ?_); rintro e w2 ⟨v2, rfl, hp2⟩; clear hput1; have HK2 := hid (HP.out.trans hp2); obtain ⟨⟨c0, c1, c2, c3⟩, hcall⟩ := HCALL.out _ HK2.out; have e3 := (HBOX.out _ _ HK2.out).2; clear hp2 HCALL n0)
            | (go_at_call 91; (with_reducible refine hcall.mono ?_); rintro e w3 ⟨rfl, hp3⟩; clear hcall c0 c1 c2 c3 e3; have HK3 := hid (HK2.out.trans hp3); clear hp3))
          go_roundw
          case rel => exact ⟨i + 1, by omega, by go_num, HST.out _ HK3.out⟩
          case measure => simp [intOf]; omega
        · have hi00 : i = 0 := by omega
          have hz : gl (Q.take i) = [] := by rw [hi00]; rfl
          have hst : gl (Q.take (i + 1)) = 40 :: (n ++ 32 :: (x.tx ++ [41])) := by rw [hi00] at hQi ⊢; exact gl_take0 hQi
          rw [hst] at hlp2
          simp only [List.length_append, List.length_cons, List.length_nil] at hlp2
          have hzl : (gl (Q.take i)).length = 0 := by rw [hz]; rfl
          obtain ⟨c0, c1, c2, c3⟩ := (hc wr hpd.below hpd.kept).1
          have hcall := list_one (an := an2) (cn := cn2) (aa := aa2) (ca := ca2) n hn0 hpd.pen (fun w3 hb hk => (hc w3 (hpd.below.trans hb) (hpd.kept.trans hk)).2) (by simp; omega)
          have HST := hid (fun (w2 : World) (K : Pd B b (t0 ++ ([40, 108, 101, 116, 32, 40] ++ gl (Q.take i)) ++ (40 :: (n ++ 32 :: (x.tx ++ [41])))) W w2) => K.as (show _ = t0 ++ ([40, 108, 101, 116, 32, 40] ++ gl (Q.take (i + 1))) by rw [hst, hz]; simp))
          have hi0' : ¬ (0 : Int) < (i : Int) := by omega
          have e3 := (HBOX.out _ _ hpd).2
          clear hc hQi hn0 hlen hlp hlp2 hst hn hx hnel hpd hz hzl hi00
          go_wp2_with (go_at_call 91; (with_reducible refine hcall.mono ?_); rintro e w3 ⟨rfl, hp3⟩; clear hcall c0 c1 c2 c3 e3; have HK3 := hid (HP.out.trans hp3); clear hp3)
          go_roundw
          case rel => exact ⟨i + 1, by omega, by go_num, HST.out _ HK3.out⟩
          case measure => simp [intOf]; omega
      · obtain rfl : i = ns.length := by omega
        rw [show Q.take ns.length = Q by rw [← HQL.out, List.take_length]] at hpd
        have HPQ := hid hpd
        have hlen := HLEN.out
        obtain ⟨an2, cn2, aa2, ca2, hc⟩ := HEL.out ns.length y HY.out
        have hput1 := put_pen hpd.pen [41, 32] (by simp; omega)
        have HCALL := hid (fun (w2 : World) (K : Pd B b (t0 ++ ([40, 108, 101, 116, 32, 40] ++ gl Q) ++ [41, 32]) W w2) => And.intro (hc w2 K.below K.kept).1 ((hc w2 K.below K.kept).2 _ K.pen (by simp; omega)))
        have HPUT3 := hid (fun (w2 : World) (K : Pd B b (t0 ++ ([40, 108, 101, 116, 32, 40] ++ gl Q) ++ [41, 32] ++ y.tx) W w2) => put_pen K.pen [41] (by simp; omega))
        clear hc hlen hlp hpd HP
        go_wp2_with (first
          | (go_at_call 89; (with_reducible refine hput1.mono ?_); rintro e w2 ⟨v2, rfl, hp2⟩; clear hput1; have HK2 := hid (HPQ.out.trans hp2); obtain ⟨⟨c0, c1, c2, c3⟩, hcall⟩ := HCALL.out _ HK2.out; have e3 := (HBOX.out _ _ HK2.out).2; rw [HL9.out] at e3; clear hp2 HCALL)
          | (go_at_call 63; (with_reducible refine hcall.mono ?_); rintro e w3 ⟨rfl, hp3⟩; clear hcall c0 c1 c2 c3 e3; have HK3 := hid (HK2.out.trans hp3); have hput3 := HPUT3.out _ HK3.out; clear hp3 HPUT3)
          | (go_at_call 89; (with_reducible refine hput3.mono ?_); rintro e w6 ⟨v6, rfl, hp6⟩; clear hput3; have HK6 := hid (HK3.out.trans hp6); clear hp6))
        go_end0
        exact ⟨rfl, HEND.out _ HK6.out⟩
  have hv : form k t ns (txl l) = t := by simp [form, k3, k4, k6, k8, k9, k10, k7]
  rw [hv] at hlen ⊢
  have HPUT := hid (fun (w2 : World) (K : Grew W w2) => put_pen (hpW.grew K) t (by omega))
  have HPW := hid hpW
  clear hpW h6 h9 h8 h10 h69 hv hlen
  go_upto_region 1 with (fail)
  rw [← hW]
  clear hW
  replace HE1 : Hid (W.cell? ⟨w'.heap.size, 1, none⟩ = some (St t)) := HE1
  go_wp2
  refine Rg.wp_region_facts 5 Grew [(8, Rg.Ex (.pointer (some ⟨b, 0, none⟩))), (9, Rg.Ex (.pointer (some ⟨b, 0, none⟩))), (10, Rg.Ex (.pointer (some ⟨b, 0, none⟩))), (11, Rg.Ex (.pointer (some ⟨w'.heap.size, 1, none⟩))), (12, Rg.Ex (St t))] (by kernel_rfl) (by kernel_rfl) (by rfl) (by rfl)
    (fun a => Fr.refl _ a) (fun a b c h k => h.trans k (fun _ _ f => f)) (Fr.refl _ _).drew
    (Rg.Stays.all ⟨Rg.Ex.stays _, Rg.Ex.stays _, Rg.Ex.stays _, Rg.Ex.stays _, Rg.Ex.stays _, trivial⟩) ?_ ?_
  · go_light
    refine Rg.OpGoals.cons (Rg.OpGoal.plain rfl ?_) (Rg.OpGoals.cons (Rg.OpGoal.plain rfl ?_) (Rg.OpGoals.cons (Rg.OpGoal.plain rfl ?_) (Rg.OpGoals.cons (Rg.OpGoal.plain rfl ?_) (Rg.OpGoals.cons (Rg.OpGoal.plain rfl ?_) Rg.OpGoals.none))))
    all_goals (intro a' w' hS hR; simp [Rg.Rd, Op.operands, Rg.Fk, Rg.Ex] at hR)
    all_goals (have e1' := hS.cell HE1.out (fun f => f))
    all_goals try (simp [Rg.Yields, execOp, Act.eval, hR, e1', go_sem, Rg.Fk, Rg.Ex, Fr.refl]; done)
  · intro w5 hS
    rintro _ rfl _ rfl _ rfl _ rfl _ rfl
    refine Rg.Then.nil ?_
    have hput := HPUT.out w5 hS
    have HS := hid hS
    clear hS
    go_wp2_with (go_at_call 89; (with_reducible refine hput.mono ?_); rintro e w6 ⟨v, rfl, hpd⟩; clear hput)
    go_end0
    exact ⟨rfl, HFI.out _ _ (hpd.first HS.out (by have := HPW.out.lt; omega))⟩

theorem write_row {B b : Nat} {w : World} {v : Value} {l : List X} (h : Row w (fun k => B ≤ k) v l) : ∀ w', Below B w w' → ∀ (k : Int) (t : Str) (vn : Value) (ns : List Str), Nm w (fun k => B ≤ k) vn ns → Wo (.mk k t ns l) → ∀ t0, Pen B b t0 w' → t0.length + (form k t ns (txl l)).length ≤ 2000000000000 →
    Calls Try.prog 63 #[.pointer (some ⟨b, 0, none⟩), .agg #[Kv k, St t, vn, v]] w' fun e w'' => e = .returned (.tuple #[]) ∧ Pd B b (t0 ++ form k t ns (txl l)) w' w'' := by
  refine Row.ind (P := fun v l => ∀ w', Below B w w' → ∀ (k : Int) (t : Str) (vn : Value) (ns : List Str), Nm w (fun k => B ≤ k) vn ns → Wo (.mk k t ns l) → ∀ t0, Pen B b t0 w' → t0.length + (form k t ns (txl l)).length ≤ 2000000000000 →
    Calls Try.prog 63 #[.pointer (some ⟨b, 0, none⟩), .agg #[Kv k, St t, vn, v]] w' fun e w'' => e = .returned (.tuple #[]) ∧ Pd B b (t0 ++ form k t ns (txl l)) w' w'') ?_ ?_ h
  · intro ad cap w' hw k t vn ns hn hwo t0 hp hlen
    obtain ⟨an, cn, rfl, -⟩ := hn.shape
    exact write_core (l := []) hp hwo (hn.kept (below_fr hw) (fun _ e => e)) (fun _ _ e => absurd rfl e) hlen
  · intro l g o cap _ _ hD H w' hw k t vn ns hn hwo t0 hp hlen
    obtain ⟨an, cn, rfl, -⟩ := hn.shape
    refine write_core hp hwo (hn.kept (below_fr hw) (fun _ e => e)) (fun W hW _ => ⟨g, o, rfl, fun i x hx => ?_⟩) hlen
    obtain ⟨an2, cn2, aa2, ca2, he, hc⟩ := H i x hx
    have hwx : Wo x := by
      cases hwo with
      | mk _ _ _ _ _ _ _ _ _ _ _ _ _ h => exact h x (List.mem_of_getElem? hx)
    refine ⟨an2, cn2, aa2, ca2, fun w2 hb _ => ?_⟩
    have hf := below_fr (hw.trans (hW.trans hb))
    refine ⟨⟨hf.cell he.c0 hD, hf.cell he.c1 hD, hf.cell he.c2 hD, hf.cell he.c3 hD⟩, fun t1 hp1 hl1 => ?_⟩
    cases x with
    | mk k t ns a => exact hc w2 (hw.trans (hW.trans hb)) k t _ ns he.nm hwx t1 hp1 hl1

set_option maxHeartbeats 4000000 in
/-- Text -/
theorem text_any {w : World} {e : Value} {x : X} (h : Rd w (fun _ => False) e x) (hx : Wo x) (w' : World) (hg : Grew w w') : Calls Try.prog 42 #[e] w' fun e w'' => e = .returned (St x.tx) ∧ Grew w' w'' := by
  obtain ⟨vn, va, rfl, hn, hr⟩ := h
  have h1 : x.tx ≠ [] ∧ x.tx.length ≤ 1000000000000 := by
    cases hx with
    | mk k t ns a h6 h9 h8 h10 h69 hn ha h0 hb h => exact ⟨h0, hb⟩
  have hp := fun o : Obj => pen_new (w := w'.alloc o) (b := w'.heap.size + 1) (B := w'.heap.size) (by simp) (by omega)
  have hgo := fun o : Obj => hg.trans (((Fr.refl (fun _ => False) w').alloc o).alloc (.cells #[.pointer none, .slice none 0 0] 107)) (fun _ _ f => f)
  have hn' := hn.grew hg
  have hr' := hr.grew hg
  have hw := fun (o : Obj) => write_row (B := w'.heap.size) (b := w'.heap.size + 1) (w := w') (hr'.mono (fun b hb (e : w'.heap.size ≤ b) => by omega)) _ (((Below.refl w'.heap.size w').alloc (Nat.le_refl _) o).alloc (by simp) (.cells #[.pointer none, .slice none 0 0] 107)) x.kind x.text vn x.names (hn'.mono (fun b hb (e : w'.heap.size ≤ b) => by omega)) (by cases x; exact hx) [] (hp o) (by rw [← X.tx_eq]; have := h1.2; simp; omega)
  rw [← X.tx_eq] at hw
  rw [List.nil_append] at hw
  have HS := hid (fun (w2 : World) (k : Pen w'.heap.size (w'.heap.size + 1) x.tx w2) => string_pen k h1.1)
  have hal := fun o o' => ((Below.refl w'.heap.size w').alloc (Nat.le_refl _) o).alloc (by simp) o'
  have HB := hid hal
  obtain ⟨an, cn, rfl, -⟩ := hn.shape
  obtain ⟨aa, ca, rfl, -⟩ := hr.shape
  clear hn hr hn' hr' hp hal hgo
  go_enter Try.func42, Try.ntmps42
  go_wp2_with (first | (go_at_call 63; (with_reducible refine (hw _).mono ?_); rintro e w1 ⟨rfl, hpd⟩; clear hw; have hs := HS.out _ hpd.pen; have HPD := hid hpd; clear hpd) | (go_at_call 64; (with_reducible refine hs.mono ?_); rintro e w2 ⟨rfl, hb2⟩))
  go_ret
  exact ⟨rfl, below_grew (((HB.out _ _).trans HPD.out.below).trans hb2)⟩
end Go.Proofs.Ytddcfnjmppijjaa
