import Derived.Test.YtddcfnjmppijjaaN5
import Derived.Test.YtddcfnjmppijjaaA2
/-! core.Right: may a term be. -/
namespace Go.Proofs.Ytddcfnjmppijjaa
open Go.RowKit

/-- a term of which nothing is too long for a machine -/
inductive Sm : X → Prop
  | mk (k : Int) (t : Str) (ns : List Str) (a : List X) (ht : t.length ≤ 1000000) (hn : ns.length ≤ 1000000) (ha : a.length ≤ 1000000) (h : ∀ x ∈ a, Sm x) : Sm (.mk k t ns a)

mutual
/-- may a term be? -/
def X.ok : X → Bool
  | .mk k t ns a => oks a && shp k t ns a.length
def oks : List X → Bool
  | [] => true
  | x :: r => x.ok && oks r
end
theorem oks_take (l : List X) (i : Nat) (x : X) (hx : l[i]? = some x) : oks (l.take (i + 1)) = (oks (l.take i) && x.ok) := by
  induction l generalizing i with
  | nil => simp at hx
  | cons y r ih =>
    cases i with
    | zero => simp at hx; subst hx; simp [oks]
    | succ i =>
      have := ih i (by simpa using hx)
      simp only [List.take_succ_cons, oks, this, Bool.and_assoc]
theorem oks_bad (l : List X) (i : Nat) (x : X) (hx : l[i]? = some x) (h : x.ok = false) : oks l = false := by
  induction l generalizing i with
  | nil => simp at hx
  | cons y r ih =>
    cases i with
    | zero => simp at hx; subst hx; simp [oks, h]
    | succ i => simp [oks, ih i (by simpa using hx)]
theorem X.ok_eq (x : X) : x.ok = (oks x.parts && shp x.kind x.text x.names x.parts.length) := by cases x; rfl

/-- what Right answers of a term of these parts -/
def RightAt (f : Nat) (w : World) (D : Nat → Prop) (v : Value) (l : List X) : Prop :=
  (∀ x ∈ l, Sm x) → l.length ≤ 1000000 → ∀ w', Grew w w' → ∀ (k : Int) (t : Str) (vn : Value) (ns : List Str), Nm w D vn ns → t.length ≤ 1000000 → ns.length ≤ 1000000 →
    Calls Try.prog f #[.agg #[Kv k, St t, vn, v]] w' fun e w'' => e = .returned (.bool (oks l && shp k t ns l.length)) ∧ Grew w' w''

theorem right_step {f : Nat} {w : World} {D : Nat → Prop} {g p : Nat} {x : X} {an : Option Addr} {cn : Nat} {aa : Option Addr} {ca : Nat} (he : El w D g p x an cn aa ca) (h : RightAt f w D (.slice aa x.parts.length ca) x.parts) (hx : Sm x) (w' : World) (hg : Grew w w') :
    Calls Try.prog f #[.agg #[Kv x.kind, St x.text, .slice an x.names.length cn, .slice aa x.parts.length ca]] w' fun e w'' => e = .returned (.bool x.ok) ∧ Grew w' w'' := by
  rw [X.ok_eq]
  cases hx with
  | mk k t ns a ht hn ha hs => exact h hs ha w' hg k t _ ns he.nm ht hn

set_option maxHeartbeats 4000000 in
set_option maxRecDepth 100000 in
theorem right_row {w : World} (hG : Gl w) {D : Nat → Prop} {v : Value} {l : List X} (h : Row w D v l) : RightAt 34 w D v l := by
  refine Row.ind (P := RightAt 34 w D) ?_ ?_ h
  · intro ad cap hs hl w' hw k t vn ns hns ht hnl
    obtain ⟨an, cn, rfl, -⟩ := hns.shape
    have hsh := fun (W : World) (g : Grew w' W) => shaped_any (hG.grew (hw.trans g (fun _ _ f => f))) (hns.kept (hw.trans g (fun _ _ f => f)) (fun _ f => f.elim)) k t ad 0 cap ht hnl (by omega)
    have hv := hid (show (oks [] && shp k t ns (List.length ([] : List X))) = shp k t ns 0 from rfl)
    have HG := hid ((Fr.refl (fun _ => False) w').alloc (.cells #[Kv k, St t, .slice an ns.length cn, .slice ad 0 cap] 28))
    clear hns hw hG
    go_enter Try.func34, Try.ntmps34
    go_wp2
    go_loopw [8] (fun b wr => b = .int .i64 0 ∧ wr = w'.alloc (.cells #[Kv k, St t, .slice an ns.length cn, .slice ad 0 cap] 28)) (fun _ _ => 0)
    case atStart => exact ⟨rfl, rfl⟩
    case round =>
      obtain ⟨rfl, rfl⟩ := hrel
      go_wp2_with (go_at_call 58; (with_reducible refine (hsh _ HG.out).mono ?_); rintro e w2 ⟨rfl, hg2⟩)
      go_ret
      exact ⟨(congrArg (fun b => Ending.returned (.bool b)) hv.out).symm, HG.out.trans hg2 (fun _ _ f => f)⟩
  · intro l g o cap hn hm hD H hs hl w' hw k t vn ns hns ht hnl
    obtain ⟨an, cn, rfl, -⟩ := hns.shape
    obtain ⟨o0, ho0⟩ : ∃ q : Obj, q = .cells #[Kv k, St t, .slice an ns.length cn, .slice (some ⟨g, o, none⟩) l.length cap] 28 := ⟨_, rfl⟩
    have hsh := fun (W : World) (g' : Grew w' W) => shaped_any (hG.grew (hw.trans g' (fun _ _ f => f))) (hns.kept (hw.trans g' (fun _ _ f => f)) (fun _ f => f.elim)) k t (some ⟨g, o, none⟩) l.length cap ht hnl hl
    have HG := hid ((Fr.refl (fun _ => False) w').alloc (.cells #[Kv k, St t, .slice an ns.length cn, .slice (some ⟨g, o, none⟩) l.length cap] 28))
    have HH := hid H
    have HW := hid hw
    have HS := hid hs
    have HSH := hid hsh
    clear hns hw hG hsh H hs hD ho0
    replace hm : cap ≤ 9223372036854775807 := hm
    go_enter Try.func34, Try.ntmps34
    go_wp2
    go_loopw [8] (fun b wr => ∃ i : Nat, i ≤ l.length ∧ b = .int .i64 i ∧ oks (l.take i) = true ∧ Grew (w'.alloc (.cells #[Kv k, St t, .slice an ns.length cn, .slice (some ⟨g, o, none⟩) l.length cap] 28)) wr) (fun i _ => l.length - (intOf i).toNat)
    case atStart => exact ⟨0, Nat.zero_le _, rfl, rfl, Fr.refl _ _⟩
    case round =>
      obtain ⟨i, hi, rfl, hok, hgr⟩ := hrel
      have hgw := HG.out.trans hgr (fun _ _ f => f)
      by_cases hlt : i < l.length
      · obtain ⟨x, hx⟩ := at_of_lt hlt
        obtain ⟨an', cn', aa', ca', he, hc⟩ := HH.out i x hx
        have hg2 := HW.out.trans hgw (fun _ _ f => f)
        have c0 := hg2.cell he.c0 (fun f => f)
        have c1 := hg2.cell he.c1 (fun f => f)
        have c2 := hg2.cell he.c2 (fun f => f)
        have c3 := hg2.cell he.c3 (fun f => f)
        have hcall := fun o => right_step he hc (HS.out x (List.mem_of_getElem? hx)) (wr.alloc o) (hg2.alloc o)
        have HOK := hid (oks_take l i x hx)
        have HBAD := hid (oks_bad l i x hx)
        have HO := hid hok
        have HGW := hid hgw
        have HGR := hid hgr
        cases hxo : x.ok
        · rw [hxo] at hcall
          have hv := hid (show (oks l && shp k t ns l.length) = false from by rw [HBAD.out hxo]; rfl)
          clear he hc hx hok hxo hg2 hgr hgw
          go_wp2_with (go_at_call 34; (with_reducible refine (hcall _).mono ?_); rintro e w2 ⟨rfl, hg2⟩; clear hcall)
          go_ret
          exact ⟨(congrArg (fun b => Ending.returned (.bool b)) hv.out).symm, (HGW.out.alloc _).trans hg2 (fun _ _ f => f)⟩
        · rw [hxo] at hcall
          have hv := hid (show oks (l.take (i + 1)) = true from by rw [HOK.out, HO.out, hxo]; rfl)
          clear he hc hx hok hxo hg2 hgr hgw
          go_wp2_with (go_at_call 34; (with_reducible refine (hcall _).mono ?_); rintro e w2 ⟨rfl, hg2⟩; clear hcall)
          go_roundw
          case rel => exact ⟨i + 1, by omega, by go_num, hv.out, (HGR.out.alloc _).trans hg2 (fun _ _ f => f)⟩
          case measure => simp [intOf]; omega
      · obtain rfl : i = l.length := by omega
        have hv := hid (show (oks l && shp k t ns l.length) = shp k t ns l.length from by rw [List.take_length] at hok; rw [hok]; rfl)
        have hgb := hgr.get (heap_alloc_new w' _) (fun f => f)
        have e0 := cell_of_get hgb 0
        have e1 := cell_of_get hgb 1
        have e2 := cell_of_get hgb 2
        have e3 := cell_of_get hgb 3
        have hcall := HSH.out _ hgw
        have HGW := hid hgw
        clear hgb hgr hgw hok
        go_wp2_with (go_at_call 58; (with_reducible refine hcall.mono ?_); rintro e w2 ⟨rfl, hg2⟩; clear hcall)
        go_ret
        exact ⟨(congrArg (fun b => Ending.returned (.bool b)) hv.out).symm, HGW.out.trans hg2 (fun _ _ f => f)⟩
end Go.Proofs.Ytddcfnjmppijjaa
