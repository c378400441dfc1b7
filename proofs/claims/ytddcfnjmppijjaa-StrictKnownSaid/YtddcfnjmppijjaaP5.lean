import Derived.Test.YtddcfnjmppijjaaP1
import Derived.Test.YtddcfnjmppijjaaA2
import Derived.Test.YtddcfnjmppijjaaM7
import Derived.Test.YtddcfnjmppijjaaP4
import Derived.Test.YtddcfnjmppijjaaM4
/-! thunkref5.Size, Texts, Without. -/
namespace Go.Proofs.Ytddcfnjmppijjaa
open Go.RowKit

set_option maxHeartbeats 4000000 in
theorem refsize_core {w : World} {D : Nat → Prop} {av : Option Addr} {l : List X} {cap : Nat}
    (H : l ≠ [] → ∃ g o, av = some ⟨g, o, none⟩ ∧ ∀ i x, l[i]? = some x → ∃ an cn aa ca, El w D g (o + i * 4) x an cn aa ca ∧ ∀ w', Grew w w' → ∀ k t vn, 1 + sizes x.parts ≤ 4611686018427387904 →
      Calls Try.prog 46 #[.agg #[k, t, vn, .slice aa x.parts.length ca]] w' fun e w'' => e = .returned (Kv ((1 + sizes x.parts : Nat) : Int)) ∧ Grew w' w'') :
    l.length ≤ 1000000 → ∀ w', Grew w w' → ∀ k t vn, 1 + sizes l ≤ 4611686018427387904 →
      Calls Try.prog 46 #[.agg #[k, t, vn, .slice av l.length cap]] w' fun e w'' => e = .returned (Kv ((1 + sizes l : Nat) : Int)) ∧ Grew w' w'' := by
  intro hl w' hw k t vn hs
  have HH := hid H
  have HW := hid hw
  have HS := hid hs
  have HG := hid ((Fr.refl (fun _ => False) w').alloc (.cells #[k, t, vn, .slice av l.length cap] 28))
  clear H hw hs
  go_enter Try.func46, Try.ntmps46
  go_wp2
  go_loopw [3, 4] (fun a b wr => ∃ i : Nat, i ≤ l.length ∧ b = .int .i64 i ∧ a = Kv ((1 + sizes (l.take i) : Nat) : Int) ∧ Grew (w'.alloc (.cells #[k, t, vn, .slice av l.length cap] 28)) wr) (fun _ i _ => l.length - (intOf i).toNat)
  case atStart => exact ⟨0, Nat.zero_le _, rfl, rfl, Fr.refl _ _⟩
  case round =>
    obtain ⟨i, hi, rfl, rfl, hgr⟩ := hrel
    have e3 := hgr.cell (cell_of_get (heap_alloc_new w' (.cells #[k, t, vn, .slice av l.length cap] 28)) 3) (fun f => f)
    have hgw := HG.out.trans hgr (fun _ _ f => f)
    by_cases hlt : i < l.length
    · obtain ⟨x, hx⟩ := at_of_lt hlt
      obtain ⟨g, o, rfl, hel⟩ := HH.out (fun e => by rw [e] at hlt; simp at hlt)
      obtain ⟨an, cn, aa, ca, he, hc⟩ := hel i x hx
      have hg2 := HW.out.trans hgw (fun _ _ f => f)
      have c0 := hg2.cell he.c0 (fun f => f)
      have c1 := hg2.cell he.c1 (fun f => f)
      have c2 := hg2.cell he.c2 (fun f => f)
      have c3 := hg2.cell he.c3 (fun f => f)
      obtain ⟨hst, hle⟩ := sizes_take l i x hx
      have hxs := X.size_eq x
      have hsz := HS.out
      have hcall := hc wr hg2 (Kv x.kind) (St x.text) (.slice an x.names.length cn) (by omega)
      have HST := hid (show 1 + sizes (l.take (i + 1)) = 1 + sizes (l.take i) + (1 + sizes x.parts) by omega)
      have hb1 : 1 + sizes (l.take i) + (1 + sizes x.parts) ≤ 4611686018427387905 := by omega
      generalize 1 + sizes x.parts = sy at hcall HST hb1
      generalize 1 + sizes (l.take i) = s0 at HST hb1
      have HGR := hid hgr
      clear he hel hc hx hst hle hxs hsz hgr hgw hg2
      go_wp2_with (go_at_call 46; (with_reducible refine hcall.mono ?_); rintro e w4 ⟨rfl, hg4⟩; clear hcall)
      go_roundw
      case rel => exact ⟨i + 1, by omega, by go_num, by rw [HST.out]; go_num, HGR.out.trans hg4 (fun _ _ f => f)⟩
      case measure => simp [intOf]; omega
    · obtain rfl : i = l.length := by omega
      rw [List.take_length]
      have HGW := hid hgw
      clear hgr hgw
      go_wp2
      go_ret
      exact ⟨rfl, HGW.out⟩

theorem refsize_row {w : World} {D : Nat → Prop} {v : Value} {l : List X} (h : Row w D v l) : 1 + sizes l ≤ 1000000 → ∀ w', Grew w w' → ∀ k t vn,
    Calls Try.prog 46 #[.agg #[k, t, vn, v]] w' fun e w'' => e = .returned (Kv ((1 + sizes l : Nat) : Int)) ∧ Grew w' w'' := by
  have hlen : ∀ l : List X, l.length ≤ sizes l := by
    intro l
    induction l with
    | nil => simp
    | cons x r ih => have := X.size_eq x; simp only [sizes, List.length_cons]; omega
  refine Row.ind (P := fun v l => 1 + sizes l ≤ 1000000 → ∀ w', Grew w w' → ∀ k t vn, Calls Try.prog 46 #[.agg #[k, t, vn, v]] w' fun e w'' => e = .returned (Kv ((1 + sizes l : Nat) : Int)) ∧ Grew w' w'') ?_ ?_ h
  · intro ad cap hs w' hw k t vn
    exact refsize_core (w := w) (D := D) (av := ad) (l := []) (cap := cap) (fun e => absurd rfl e) (by simp) w' hw k t vn (by simp [sizes])
  · intro l g o cap _ _ _ H hs w' hw k t vn
    have := hlen l
    refine refsize_core (w := w) (D := D) (fun _ => ⟨g, o, rfl, fun i x hx => ?_⟩) (by omega) w' hw k t vn (by omega)
    obtain ⟨an, cn, aa, ca, he, hc⟩ := H i x hx
    obtain ⟨h1, h2⟩ := sizes_take l i x hx
    have h3 := X.size_eq x
    exact ⟨an, cn, aa, ca, he, fun w' hg k t vn _ => hc (by omega) w' hg k t vn⟩

theorem text_ne {x y : Str} (h : ¬ x = y) : ((⟨x.toArray⟩ : ByteArray) = ⟨y.toArray⟩) = False := by
  simp [h]

theorem take_eq_add {l m : List Str} {i : Nat} {x : Str} (hx : l[i]? = some x) (hy : m[i]? = some x) (h : l.take i = m.take i) : l.take (i + 1) = m.take (i + 1) := by
  rw [List.take_add_one, List.take_add_one, h, hx, hy]

set_option maxHeartbeats 4000000 in
/-- Texts -/
theorem texts_any {w : World} {D E : Nat → Prop} {a b : Value} {l m : List Str} (ha : Nm w D a l) (hb : Nm w E b m) : Calls Try.prog 31 #[a, b] w fun e w' => e = .returned (.bool (decide (l = m))) ∧ Grew w w' := by
  obtain ⟨aa, ca, rfl, ha1, ha2⟩ := ha.shape
  obtain ⟨ab, cb, rfl, hb1, hb2⟩ := hb.shape
  replace ha2 : ca ≤ 9223372036854775807 := ha2
  replace hb2 : cb ≤ 9223372036854775807 := hb2
  by_cases hlen : (l.length : Int) = m.length
  · have hA := hid (fun (h0 : l ≠ []) => ha.row h0)
    have hB := hid (fun (h0 : m ≠ []) => hb.row h0)
    have HL := hid (show l.length = m.length by omega)
    have HG := hid (Fr.refl (fun _ => False) w)
    clear ha hb
    go_enter Try.func31, Try.ntmps31
    go_wp2
    go_loopw [5] (fun i wr => ∃ j : Nat, j ≤ l.length ∧ i = .int .i64 j ∧ Grew w wr ∧ l.take j = m.take j) (fun i _ => l.length - (intOf i).toNat)
    case atStart => exact ⟨0, Nat.zero_le _, rfl, HG.out, rfl⟩
    case round =>
      obtain ⟨j, hj, rfl, hgr, hs⟩ := hrel
      have HS := hid hs
      clear hs
      by_cases hlt : j < l.length
      · obtain ⟨x, hx⟩ := at_of_lt hlt
        obtain ⟨y, hy⟩ := at_of_lt (l := m) (i := j) (by have := HL.out; omega)
        obtain ⟨g, o, c, e, -, -, -, hel⟩ := hA.out (fun e => by rw [e] at hlt; simp at hlt)
        obtain ⟨g', o', c', e', -, -, -, hel'⟩ := hB.out (fun e => by rw [e] at hy; simp at hy)
        simp only [Value.slice.injEq] at e e'
        obtain ⟨rfl, -, rfl⟩ := e
        obtain ⟨rfl, -, rfl⟩ := e'
        have c0 := hgr.cell (hel j x hx) (fun f => f)
        have d0 := hgr.cell (hel' j y hy) (fun f => f)
        have HGR := hid hgr
        by_cases hxy : x = y
        · subst hxy
          have HN := hid (take_eq_add hx hy HS.out)
          clear hx hy hel hel' HS hgr
          go_wp2
          go_quiet (fail)
          go_wp2
          go_roundw
          case rel => exact ⟨j + 1, by omega, by go_num, HGR.out.drewN _, HN.out⟩
          case measure => simp [intOf]; omega
        · have hm := hid (show decide (l = m) = false from decide_eq_false (fun e => by rw [e, hy] at hx; cases hx; exact hxy rfl))
          have hbe : (x == y) = false := by simpa using hxy
          clear hx hy hel hel' HS hgr
          go_wp2
          go_quiet (fail)
          go_wp2
          go_ret
          exact ⟨(congrArg (fun b => Ending.returned (.bool b)) hm.out).symm, HGR.out.drewN _⟩
      · have hm := hid (show decide (l = m) = true from decide_eq_true (by
          have h1 := HS.out
          have : j = l.length := by omega
          subst this
          rwa [List.take_length, HL.out, List.take_length] at h1))
        have HGR := hid hgr
        clear hgr
        go_wp2
        go_ret
        exact ⟨(congrArg (fun b => Ending.returned (.bool b)) hm.out).symm, HGR.out⟩
  · have hm := hid (show decide (l = m) = false from decide_eq_false (fun e => hlen (by rw [e])))
    have HG := hid (Fr.refl (fun _ => False) w)
    clear ha hb
    go_enter Try.func31, Try.ntmps31
    go_wp2
    go_ret
    exact ⟨(congrArg (fun b => Ending.returned (.bool b)) hm.out).symm, HG.out⟩
end Go.Proofs.Ytddcfnjmppijjaa

/-! thunkref5.Without. -/
namespace Go.Proofs.Ytddcfnjmppijjaa
open Go.RowKit

/-- a set without these -/
def wo (l ns : List Str) : List Str := l.filter (fun s => !decide (s ∈ ns))
theorem wo_take {l ns : List Str} {i : Nat} {x : Str} (hx : l[i]? = some x) : wo (l.take (i + 1)) ns = wo (l.take i) ns ++ (if x ∈ ns then [] else [x]) := by
  unfold wo
  rw [List.take_add_one, hx, List.filter_append]
  by_cases h : x ∈ ns <;> simp [h]
theorem wo_len (l ns : List Str) : (wo l ns).length ≤ l.length := List.length_filter_le _ _

set_option maxHeartbeats 4000000 in
/-- Without -/
theorem without_any {w : World} {D E : Nat → Prop} {a b : Value} {l ns : List Str} (ha : Nm w D a l) (hb : Nm w E b ns) (hl : l.length ≤ 900000) : Calls Try.prog 41 #[a, b] w fun e w' => ∃ v, e = .returned v ∧ Rt w.heap.size w' v (wo l ns) ∧ Grew w w' := by
  have hA := hid (fun (h0 : l ≠ []) => ha.row h0)
  have HIN := hid (fun (wr : World) (hg : Grew w wr) s => in_any (hb.kept hg (fun _ f => f.elim)) s)
  obtain ⟨aa, ca, rfl, ha1, ha2⟩ := ha.shape
  obtain ⟨ab, cb, rfl, hb1, hb2⟩ := hb.shape
  replace ha2 : ca ≤ 9223372036854775807 := ha2
  have HG := hid (Fr.refl (fun _ => False) w)
  clear ha hb
  go_enter Try.func41, Try.ntmps41
  go_wp2
  go_loopw [5, 6] (fun vo i wr => ∃ j : Nat, j ≤ l.length ∧ i = .int .i64 j ∧ (∃ a m c, vo = .slice a m c) ∧ Grew w wr ∧ Rt w.heap.size wr vo (wo (l.take j) ns)) (fun _ i _ => l.length - (intOf i).toNat)
  case atStart => exact ⟨0, Nat.zero_le _, rfl, ⟨_, _, _, rfl⟩, HG.out, World.ownsRow_nil _ _ _ _⟩
  case round =>
    obtain ⟨j, hj, rfl, ⟨aO, mO, cO, rfl⟩, hgr, hrt⟩ := hrel
    by_cases hlt : j < l.length
    · obtain ⟨x, hx⟩ := at_of_lt hlt
      obtain ⟨g, o, c, e, -, -, -, hel⟩ := hA.out (fun e => by rw [e] at hlt; simp at hlt)
      simp only [Value.slice.injEq] at e
      obtain ⟨rfl, -, rfl⟩ := e
      have c0 := hgr.cell (hel j x hx) (fun f => f)
      have hin := HIN.out wr hgr x
      have HWT := hid (wo_take (ns := ns) hx)
      have hlw := wo_len (l.take j) ns
      have hlt2 : (l.take j).length ≤ 900000 := by simp; omega
      by_cases hmem : x ∈ ns
      · rw [decide_eq_true hmem] at hin
        have HR := hid (show Rt w.heap.size wr (.slice aO mO cO) (wo (l.take (j + 1)) ns) by rw [HWT.out, if_pos hmem, List.append_nil]; exact hrt)
        have HGR := hid hgr
        clear hel hrt hgr hx hmem
        go_wp2_with (go_at_call 25; (with_reducible refine hin.mono ?_); rintro e w2 ⟨rfl, rfl⟩; clear hin)
        go_roundw
        case rel => exact ⟨j + 1, by omega, by go_num, ⟨_, _, _, rfl⟩, HGR.out, HR.out⟩
        case measure => simp [intOf]; omega
      · rw [decide_eq_false hmem] at hin
        have hg5 : Grew wr (wr.alloc (.cells #[St x] 9)) := (Fr.refl _ _).alloc _
        obtain ⟨v1, w6, hrun, hn3, hf6, ho3⟩ := app_rt (rt_kept hrt hg5 (fun _ _ f => f)) (by simp; have := hgr.size; omega) (nm_one wr x _ rfl) (by simp; omega) 25
        obtain ⟨a1, m1, c1, rfl⟩ : ∃ a m c, v1 = .slice a m c := (by obtain ⟨a1, c1, e1, -⟩ := hn3.shape; exact ⟨a1, _, c1, e1⟩)
        have hg6 : Grew w w6 := (hgr.trans hg5 (fun _ _ f => f)).trans hf6 (fun k hk e => by have := (hrt.lt k e).1; omega)
        have HR := hid (show Rt w.heap.size w6 _ (wo (l.take (j + 1)) ns) by rw [HWT.out, if_neg hmem]; exact hn3)
        have HRUN := hid hrun
        have HG6 := hid hg6
        clear hel hrt hgr hx hmem hg5 hrun hn3 hf6 ho3 hg6
        go_wp2_with (first | (go_at_call 25; (with_reducible refine hin.mono ?_); rintro e w2 ⟨rfl, rfl⟩; clear hin) | (at_builtin; refine wpList_app rfl rfl rfl rfl HRUN.out ?_; clear HRUN))
        go_roundw
        case rel => first | exact ⟨j + 1, by omega, by go_num, ⟨_, _, _, rfl⟩, HG6.out, HR.out⟩
        case measure => simp [intOf]; omega
    · obtain rfl : j = l.length := by omega
      rw [List.take_length] at hrt
      have HR := hid hrt
      have HGR := hid hgr
      clear hrt hgr
      go_wp2
      go_ret
      exact ⟨_, rfl, HR.out, HGR.out⟩
end Go.Proofs.Ytddcfnjmppijjaa

/-! Names in order: plain laws. -/
namespace Go.Proofs.Ytddcfnjmppijjaa
open Go.RowKit

theorem str_antisymm {x y : Str} (h1 : x ≤ y) (h2 : y ≤ x) : x = y := List.le_antisymm h1 h2
theorem str_total (x y : Str) : x ≤ y ∨ y ≤ x := List.le_total x y

/-- two rows in order, each of whose texts stands once, that have the same texts, are one -/
theorem sorted_eq : ∀ (l m : List Str), l.Pairwise (fun x y => x ≤ y) → m.Pairwise (fun x y => x ≤ y) → l.Nodup → m.Nodup → (∀ s, s ∈ l ↔ s ∈ m) → l = m
  | [], m, _, _, _, _, h => by
    cases m with
    | nil => rfl
    | cons y r => exact absurd ((h y).2 (by simp)) (by simp)
  | x :: l, [], _, _, _, _, h => absurd ((h x).1 (by simp)) (by simp)
  | x :: l, y :: m, hl, hm, nl, nm, h => by
    rw [List.pairwise_cons] at hl hm
    rw [List.nodup_cons] at nl nm
    have hxy : x = y := by
      rcases List.mem_cons.1 ((h x).1 (by simp)) with e | e
      · exact e
      · rcases List.mem_cons.1 ((h y).2 (by simp)) with e' | e'
        · exact e'.symm
        · exact str_antisymm (hl.1 y e') (hm.1 x e)
    subst hxy
    congr 1
    refine sorted_eq l m hl.2 hm.2 nl.2 nm.2 (fun s => ?_)
    have := h s
    simp only [List.mem_cons] at this
    constructor
    · intro hs
      rcases this.1 (.inr hs) with e | e
      · subst e; exact absurd hs nl.1
      · exact e
    · intro hs
      rcases this.2 (.inr hs) with e | e
      · subst e; exact absurd hs nm.1
      · exact e

theorem srt_nodup {l : List Str} (h : l.Nodup) : (srt l).Nodup := (srt_perm l).nodup_iff.2 h
theorem srt_mem (l : List Str) (s : Str) : s ∈ srt l ↔ s ∈ l := (srt_perm l).mem_iff

/-- what a maker's term has free is among the names that were there -/
theorem good_fv {S : List Str} {x : X} (h : Good S x) : ∀ s ∈ x.fv, s ∈ S := by
  have all : ∀ (T : List Str) (a : List X), (∀ x ∈ a, ∀ s ∈ x.fv, s ∈ T) → ∀ s ∈ fvs a, s ∈ T := by
    intro T a
    induction a with
    | nil => simp [fvs]
    | cons y r ih =>
      intro h s hs
      simp only [fvs, List.mem_append] at hs
      rcases hs with hs | hs
      · exact h y (by simp) s hs
      · exact ih (fun x hx => h x (by simp [hx])) s hs
  induction h with
  | int S t ht => simp [X.fv, fvs]
  | bool S t ht => simp [X.fv, fvs]
  | nil S => simp [X.fv, fvs]
  | sym S => simp [X.fv, fvs]
  | var S s hs => simpa [X.fv, fvs] using hs
  | lam S ns x h0 h1 h2 h3 hx ih =>
    intro s hs
    have hs' := (mem_fv 6 [] ns [x] s).1 hs
    rcases hs' with ⟨h, _⟩ | ⟨h1, h2⟩
    · cases h
    · have := all (S ++ ns) [x] (by simpa using ih) s h1
      exact (List.mem_append.1 this).resolve_right h2
  | app S a h1 h2 ha ih =>
    intro s hs
    rcases (mem_fv 7 [] [] a s).1 hs with ⟨h, _⟩ | ⟨h1, _⟩
    · cases h
    · exact all S a ih s h1
  | iff S a h1 ha ih =>
    intro s hs
    rcases (mem_fv 8 [] [] a s).1 hs with ⟨h, _⟩ | ⟨h1, _⟩
    · cases h
    · exact all S a ih s h1
  | lets S ns a h0 h1 h2 h3 hl ha ih =>
    intro s hs
    rcases (mem_fv 9 [] ns a s).1 hs with ⟨h, _⟩ | ⟨h1, h2⟩
    · cases h
    · exact (List.mem_append.1 (all (S ++ ns) a ih s h1)).resolve_right h2
  | prim S t a ht ha ih =>
    intro s hs
    rcases (mem_fv 10 t [] a s).1 hs with ⟨h, _⟩ | ⟨h1, _⟩
    · cases h
    · exact all S a ih s h1
theorem intsL_small2 : ∀ t ∈ intsL, t.length ≤ 900 := by decide
theorem twos_small2 : ∀ t ∈ twosL, t.length ≤ 900 := by decide
theorem ones_small2 : ∀ t ∈ onesL, t.length ≤ 900 := by decide

theorem good_small {S : List Str} {x : X} (h : Good S x) (hS : ∀ s ∈ S, Nme s) : Smn 900 x := by
  induction h with
  | int S t ht => exact .mk _ _ _ _ (intsL_small2 t ht) (by simp) (by simp) (by simp)
  | bool S t ht => exact .mk _ _ _ _ (by rcases ht with rfl | rfl <;> simp) (by simp) (by simp) (by simp)
  | nil S => exact .mk _ _ _ _ (by simp) (by simp) (by simp) (by simp)
  | sym S => exact .mk _ _ _ _ (by simp) (by simp) (by simp) (by simp)
  | var S s hs => exact .mk _ _ _ _ (by have := (hS s hs).2.1; omega) (by simp) (by simp) (by simp)
  | lam S ns x h0 h1 h2 h3 hx ih =>
    have hi := ih (fun s hs => (List.mem_append.1 hs).elim (hS s) (h3 s))
    exact .mk _ _ _ _ (by simp) (by omega) (by simp) (by simpa using hi)
  | app S a h1 h2 ha ih => exact .mk _ _ _ _ (by simp) (by simp) (by omega) (fun x hx => ih x hx hS)
  | iff S a h1 ha ih => exact .mk _ _ _ _ (by simp) (by simp) (by omega) (fun x hx => ih x hx hS)
  | lets S ns a h0 h1 h2 h3 hl ha ih =>
    exact .mk _ _ _ _ (by simp) (by omega) (by omega) (fun x hx => ih x hx (fun s hs => (List.mem_append.1 hs).elim (hS s) (h3 s)))
  | prim S t a ht ha ih =>
    rcases ht with ⟨h1, h2⟩ | ⟨h1, h2⟩
    · exact .mk _ _ _ _ (twos_small2 t h1) (by simp) (by omega) (fun x hx => ih x hx hS)
    · exact .mk _ _ _ _ (ones_small2 t h1) (by simp) (by omega) (fun x hx => ih x hx hS)
end Go.Proofs.Ytddcfnjmppijjaa

/-! thunkref5.Bind. -/
namespace Go.Proofs.Ytddcfnjmppijjaa
open Go.RowKit

theorem row_two {w : World} {D : Nat → Prop} {x y : X} {vn va vm vb : Value} (hn : Nm w D vn x.names) (hr : Row w D va x.parts) (hm : Nm w D vm y.names) (hq : Row w D vb y.parts) (h0 : ¬ D w.heap.size) (o : Nat) (ho : o = w.heap.size) :
    Row (w.alloc (.cells #[Kv x.kind, St x.text, vn, va, Kv y.kind, St y.text, vm, vb] 28)) D (.slice (some ⟨o, 0, none⟩) 2 2) [x, y] := by
  subst ho
  have hg : Grew w (w.alloc (.cells #[Kv x.kind, St x.text, vn, va, Kv y.kind, St y.text, vm, vb] 28)) := (Fr.refl _ _).alloc _
  have hb := heap_alloc_new w (.cells #[Kv x.kind, St x.text, vn, va, Kv y.kind, St y.text, vm, vb] 28)
  refine .mk [x, y] w.heap.size 0 2 (fun i => if i = 0 then vn else vm) (fun i => if i = 0 then va else vb) (Nat.le_refl _) (by simp [maxLen]) h0 ?_ ?_ ?_ ?_ ?_ ?_
  all_goals
    intro i hi
    have hi2 : i = 0 ∨ i = 1 := by simp at hi; omega
    rcases hi2 with rfl | rfl
  · exact cell_of_get hb 0
  · exact cell_of_get hb 4
  · exact cell_of_get hb 1
  · exact cell_of_get hb 5
  · exact cell_of_get hb 2
  · exact cell_of_get hb 6
  · exact cell_of_get hb 3
  · exact cell_of_get hb 7
  · exact hn.grew hg
  · exact hm.grew hg
  · exact hr.grew hg
  · exact hq.grew hg

theorem bind_done {w W : World} {x1 x2 : X} {s : Str} {vn va vm vb : Value} (hW : Grew w W) (hs : W.heap.size = w.heap.size + 1 + 1 + 1) (hn : Nm w (fun _ => False) vn x1.names) (hr : Row w (fun _ => False) va x1.parts) (hm : Nm w (fun _ => False) vm x2.names) (hq : Row w (fun _ => False) vb x2.parts) :
    ∃ e', Ending.returned (.agg #[.int .i64 9, .string ⟨#[]⟩, .slice (some ⟨w.heap.size + 1 + 1 + 1, 0, none⟩) 1 1, .slice (some ⟨w.heap.size + 1 + 1 + 1 + 1, 0, none⟩) 2 2]) = .returned e' ∧
      Rd ((W.alloc (.cells #[St s] 9)).alloc (.cells #[Kv x1.kind, St x1.text, vn, va, Kv x2.kind, St x2.text, vm, vb] 28)) (fun _ => False) e' (.mk 9 [] [s] [x1, x2]) ∧ Grew w ((W.alloc (.cells #[St s] 9)).alloc (.cells #[Kv x1.kind, St x1.text, vn, va, Kv x2.kind, St x2.text, vm, vb] 28)) := by
  have hg1 : Grew W (W.alloc (.cells #[St s] 9)) := (Fr.refl _ _).alloc _
  have hg := hW.trans hg1 (fun _ _ f => f)
  have h1 := nm_one W s (w.heap.size + 1 + 1 + 1) (by omega)
  exact ⟨_, rfl, ⟨_, _, rfl, h1.grew ((Fr.refl _ _).alloc _), row_two (hn.grew hg) (hr.grew hg) (hm.grew hg) (hq.grew hg) (fun f => f) _ (by simp; omega)⟩, hg.alloc _⟩

set_option maxHeartbeats 4000000 in
set_option maxRecDepth 100000 in
theorem bind_any {w : World} {e1 e2 : Value} {x1 x2 : X} (h1 : Rd w (fun _ => False) e1 x1) (h2 : Rd w (fun _ => False) e2 x2) (s : Str) : Calls Try.prog 29 #[St s, e1, e2] w fun e w' => ∃ e', e = .returned e' ∧ Rd w' (fun _ => False) e' (.mk 9 [] [s] [x1, x2]) ∧ Grew w w' := by
  obtain ⟨vn, va, rfl, hn, hr⟩ := h1
  obtain ⟨vm, vb, rfl, hm, hq⟩ := h2
  have HN := hid hn
  have HR := hid hr
  have HM := hid hm
  have HQ := hid hq
  obtain ⟨an, cn, rfl, -⟩ := hn.shape
  obtain ⟨aa, ca, rfl, -⟩ := hr.shape
  obtain ⟨am, cm, rfl, -⟩ := hm.shape
  obtain ⟨ab, cb, rfl, -⟩ := hq.shape
  clear hn hr hm hq
  go_enter Try.func29, Try.ntmps29
  go_wp2
  refine bodyPost_ret (res28 Try.results29 _ _ (w.heap.size + 1 + 1) rfl (((((Fr.refl (fun _ => False) _).alloc _).alloc _).get (k := w.heap.size + 1 + 1) (by
    have := heap_alloc_new ((w.alloc (.cells #[Kv x1.kind, St x1.text, .slice an x1.names.length cn, .slice aa x1.parts.length ca] 28)).alloc (.cells #[Kv x2.kind, St x2.text, .slice am x2.names.length cm, .slice ab x2.parts.length cb] 28)) (.cells #[.int .i64 9, .string ⟨#[]⟩, .slice (some ⟨w.heap.size + 1 + 1 + 1, 0, none⟩) 1 1, .slice (some ⟨w.heap.size + 1 + 1 + 1 + 1, 0, none⟩) 2 2] 28)
    simpa using this) (fun f => f)))) rfl ?_
  exact bind_done ((((Fr.refl _ _).alloc _).alloc _).alloc _) (by simp) HN.out HR.out HM.out HQ.out
end Go.Proofs.Ytddcfnjmppijjaa
