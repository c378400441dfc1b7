import Derived.Test.YtddcfnjmppijjaaN6
/-! thunkref5.Right: may a term be. -/
namespace Go.Proofs.Ytddcfnjmppijjaa
open Go.RowKit

set_option maxHeartbeats 4000000 in
set_option maxRecDepth 100000 in
theorem refright_row {w : World} {D : Nat → Prop} {v : Value} {l : List X} (h : Row w D v l) : RightAt 35 w D v l := by
  refine Row.ind (P := RightAt 35 w D) ?_ ?_ h
  · intro ad cap hs hl w' hw k t vn ns hns ht hnl
    obtain ⟨an, cn, rfl, -⟩ := hns.shape
    have hsh := fun (W : World) (g : Grew w' W) => refshape_any (hns.kept (hw.trans g (fun _ _ f => f)) (fun _ f => f.elim)) k t ad 0 cap ht hnl (by omega)
    have hv := hid (show (oks [] && shp k t ns (List.length ([] : List X))) = shp k t ns 0 from rfl)
    have HG := hid ((Fr.refl (fun _ => False) w').alloc (.cells #[Kv k, St t, .slice an ns.length cn, .slice ad 0 cap] 28))
    clear hns hw
    rcases (show shp k t ns 0 = false ∨ shp k t ns 0 = true by cases shp k t ns 0 <;> simp) with hb | hb
    all_goals
      rw [hb] at hsh hv
      clear hb
      go_enter Try.func35, Try.ntmps35
      go_wp2_with (go_at_call 59; (with_reducible refine (hsh _ HG.out).mono ?_); rintro e w2 ⟨rfl, hg2⟩)
    · go_ret
      exact ⟨(congrArg (fun b => Ending.returned (.bool b)) hv.out).symm, HG.out.trans hg2 (fun _ _ f => f)⟩
    · have hgb := hg2.get (heap_alloc_new w' _) (fun f => f)
      have HG2 := hid (HG.out.trans hg2 (fun _ _ f => f))
      clear hg2 hsh
      go_loopw [3] (fun b wr => b = .int .i64 0 ∧ wr = w2) (fun _ _ => 0)
      case atStart => exact ⟨rfl, rfl⟩
      case round =>
        obtain ⟨rfl, rfl⟩ := hrel
        have e3 := cell_of_get hgb 3
        clear hgb
        go_wp2
        go_ret
        exact ⟨(congrArg (fun b => Ending.returned (.bool b)) hv.out).symm, HG2.out⟩
  · intro l g o cap hn hm hD H hs hl w' hw k t vn ns hns ht hnl
    obtain ⟨an, cn, rfl, -⟩ := hns.shape
    obtain ⟨o0, ho0⟩ : ∃ q : Obj, q = .cells #[Kv k, St t, .slice an ns.length cn, .slice (some ⟨g, o, none⟩) l.length cap] 28 := ⟨_, rfl⟩
    have hsh := fun (W : World) (g' : Grew w' W) => refshape_any (hns.kept (hw.trans g' (fun _ _ f => f)) (fun _ f => f.elim)) k t (some ⟨g, o, none⟩) l.length cap ht hnl hl
    have HG := hid ((Fr.refl (fun _ => False) w').alloc (.cells #[Kv k, St t, .slice an ns.length cn, .slice (some ⟨g, o, none⟩) l.length cap] 28))
    have HH := hid H
    have HW := hid hw
    have HS := hid hs
    clear hns hw H hs hD ho0
    replace hm : cap ≤ 9223372036854775807 := hm
    rcases (show shp k t ns l.length = false ∨ shp k t ns l.length = true by cases shp k t ns l.length <;> simp) with hb | hb
    · have hv := hid (show (oks l && shp k t ns l.length) = false from by rw [hb]; simp)
      rw [hb] at hsh
      clear hb
      go_enter Try.func35, Try.ntmps35
      go_wp2_with (go_at_call 59; (with_reducible refine (hsh _ HG.out).mono ?_); rintro e w2 ⟨rfl, hg2⟩)
      go_ret
      exact ⟨(congrArg (fun b => Ending.returned (.bool b)) hv.out).symm, HG.out.trans hg2 (fun _ _ f => f)⟩
    rw [hb] at hsh
    have HB := hid hb
    clear hb
    go_enter Try.func35, Try.ntmps35
    go_wp2_with (go_at_call 59; (with_reducible refine (hsh _ HG.out).mono ?_); rintro e w2 ⟨rfl, hg2⟩)
    have hgb := hid (hg2.get (heap_alloc_new w' _) (fun f => f))
    have HG2 := hid (HG.out.trans hg2 (fun _ _ f => f))
    clear hg2 hsh
    go_loopw [3] (fun b wr => ∃ i : Nat, i ≤ l.length ∧ b = .int .i64 i ∧ oks (l.take i) = true ∧ Grew w2 wr) (fun i _ => l.length - (intOf i).toNat)
    case atStart => exact ⟨0, Nat.zero_le _, rfl, rfl, Fr.refl _ _⟩
    case round =>
      obtain ⟨i, hi, rfl, hok, hgr⟩ := hrel
      have hgw := HG2.out.trans hgr (fun _ _ f => f)
      have e3 := hgr.cell (cell_of_get hgb.out 3) (fun f => f)
      by_cases hlt : i < l.length
      · obtain ⟨x, hx⟩ := at_of_lt hlt
        obtain ⟨an', cn', aa', ca', he, hc⟩ := HH.out i x hx
        have hg2 := HW.out.trans hgw (fun _ _ f => f)
        have c0 := hg2.cell he.c0 (fun f => f)
        have c1 := hg2.cell he.c1 (fun f => f)
        have c2 := hg2.cell he.c2 (fun f => f)
        have c3 := hg2.cell he.c3 (fun f => f)
        have hcall := right_step he hc (HS.out x (List.mem_of_getElem? hx)) wr hg2
        have HOK := hid (oks_take l i x hx)
        have HBAD := hid (oks_bad l i x hx)
        have HO := hid hok
        have HGW := hid hgw
        have HGR := hid hgr
        cases hxo : x.ok
        · rw [hxo] at hcall
          have hv := hid (show (oks l && shp k t ns l.length) = false from by rw [HBAD.out hxo]; rfl)
          clear he hc hx hok hxo hg2 hgr hgw
          go_wp2_with (go_at_call 35; (with_reducible refine hcall.mono ?_); rintro e w3 ⟨rfl, hg3⟩; clear hcall)
          go_ret
          exact ⟨(congrArg (fun b => Ending.returned (.bool b)) hv.out).symm, HGW.out.trans hg3 (fun _ _ f => f)⟩
        · rw [hxo] at hcall
          have hv := hid (show oks (l.take (i + 1)) = true from by rw [HOK.out, HO.out, hxo]; rfl)
          clear he hc hx hok hxo hg2 hgr hgw
          go_wp2_with (go_at_call 35; (with_reducible refine hcall.mono ?_); rintro e w3 ⟨rfl, hg3⟩; clear hcall)
          go_roundw
          case rel => exact ⟨i + 1, by omega, by go_num, hv.out, HGR.out.trans hg3 (fun _ _ f => f)⟩
          case measure => simp [intOf]; omega
      · obtain rfl : i = l.length := by omega
        have hv := hid (show (oks l && shp k t ns l.length) = true from by rw [List.take_length] at hok; rw [hok, HB.out]; rfl)
        have HGW := hid hgw
        clear hgr hgw hok
        go_wp2
        go_ret
        exact ⟨(congrArg (fun b => Ending.returned (.bool b)) hv.out).symm, HGW.out⟩
end Go.Proofs.Ytddcfnjmppijjaa
