import Derived.Test.YtddcfnjmppijjaaK8
/-! StrictFixed's walk. -/
namespace Go.Proofs.Ytddcfnjmppijjaa
open Go.RowKit

theorem run_le {F : List (Str × X)} {nl : Ned} (h : Run F nl) : LeN nl (ini F) := by
  induction h with
  | zero => exact LeN.refl _
  | succ nl _ ih => exact (pasTo_le F nl F.length).trans ih
theorem run_at {F : List (Str × X)} {nl : Ned} (h : Run F nl) {i : Nat} {f : Str × X} (hf : F[i]? = some f) : ∃ bs, nl[i]? = some (f.1, bs) ∧ bs.length = f.2.names.length := by
  obtain ⟨n, hn⟩ := at_of_lt (l := nl) (i := i) (by rw [run_len h]; exact (List.getElem?_eq_some_iff.1 hf).1)
  obtain ⟨n', hn', e1, e2⟩ := (run_le h).get hn
  unfold ini at hn'
  rw [List.getElem?_map, hf] at hn'
  simp at hn'
  subst hn'
  exact ⟨n.2, by rw [hn, ← e1], by rw [e2.len]; simp⟩

set_option maxHeartbeats 8000000 in
set_option maxRecDepth 100000 in
theorem sfixed_walk {W : World} {v : Value} {l : List RT} (h : RRow W (fun _ => False) v l) : Calls Try.prog 4 #[v] W fun e W' => e = .returned (.bool true) ∧ Grew W W' := by
  have hk := known8_any W
  have hf := fun W1 (g : Grew W W1) => few_any (h.kept g (fun _ f => f.elim))
  have HT := hid (fun W1 (g : Grew W W1) (hn : nodesL l ≤ 40) => term_any (h.kept g (fun _ f => f.elim)) hn)
  obtain ⟨ad, cap, rfl, -⟩ := h.shape
  clear h
  go_enter Try.func4, Try.ntmps4
  go_upto_region 3 with (go_at_call 16; (with_reducible refine hk.mono ?_); rintro e w1 ⟨rfl, hg1⟩; clear hk)
  have hcall := hf _ hg1
  have HG1 := hid hg1
  clear hf hg1
  go_wp2_with fail
  refine hcall.mono ?_
  rintro e w2 ⟨b, rfl, hb, rfl⟩
  clear hcall
  cases b
  · clear hb
    go_wp2
    go_ret
    exact ⟨rfl, HG1.out⟩
  · have hcall := HT.out _ HG1.out (hb rfl)
    have HN := hid (hb rfl)
    clear hb
    go_wp2_with fail
    refine hcall.mono ?_
    rintro e w3 ⟨e', x, rfl, hrd, hgd, hsz, hg3⟩
    obtain ⟨vn, va, rfl, hn, hr⟩ := hrd.mono (E := fun _ => False) (fun _ _ f => f.elim)
    obtain ⟨an, cn, rfl, -⟩ := hn.shape
    obtain ⟨aa, ca, rfl, -⟩ := hr.shape
    obtain ⟨W4, hW4⟩ : ∃ q : World, q = w3.alloc (.cells #[Kv x.kind, St x.text, .slice an x.names.length cn, .slice aa x.parts.length ca] 28) := ⟨_, rfl⟩
    have g4 : Grew w3 W4 := by rw [hW4]; exact (Fr.refl _ _).alloc _
    have hb4 : W4.heap[w3.heap.size]? = some (.cells #[Kv x.kind, St x.text, .slice an x.names.length cn, .slice aa x.parts.length ca] 28 (0, 0)) := by rw [hW4]; exact heap_alloc_new w3 _
    have HC := hid (And.intro (cell_of_get hb4 0) (And.intro (cell_of_get hb4 1) (And.intro (cell_of_get hb4 2) (cell_of_get hb4 3))))
    have HRD := hid (show Rd W4 (fun _ => False) (.agg #[Kv x.kind, St x.text, .slice an x.names.length cn, .slice aa x.parts.length ca]) x from ⟨_, _, rfl, hn.grew g4, hr.grew g4⟩)
    have hne := good_ne hgd
    have HNE := hid hne
    have hsz4 : x.size ≤ 400 := by have := HN.out; omega
    have HG4 := hid ((HG1.out.trans hg3 (fun _ _ f => f)).trans g4 (fun _ _ f => f))
    clear hcall hrd hn hr hgd hsz hg3 g4 hb4 hne
    obtain ⟨c0, c1, c2, c3⟩ := HC.out
    have hcall := needs_any HRD.out HNE.out (by omega)
    go_upto_region 6 with (fail)
    rw [← hW4]
    clear hW4
    go_wp2_with fail
    refine hcall.mono ?_
    rintro e w5 ⟨aN, mN, cN, L, nl, rfl, hns, hrun, hfix, hg5⟩
    have HNS := hid hns
    have HRUN := hid hrun
    have HFIX := hid hfix
    have HG5 := hid (HG4.out.trans hg5 (fun _ _ f => f))
    clear hcall c0 c1 c2 c3
    obtain ⟨c0, c1⟩ := And.intro (hg5.cell HC.out.1 (fun f => f)) (hg5.cell HC.out.2.1 (fun f => f))
    obtain ⟨c2, c3⟩ := And.intro (hg5.cell HC.out.2.2.1 (fun f => f)) (hg5.cell HC.out.2.2.2 (fun f => f))
    have hcall := lam_any HRD.out HNE.out.1 (by omega) w5 hg5
    clear hns hrun hfix hg5
    go_wp2_with fail
    refine hcall.mono ?_
    rintro e w6 ⟨aF, mF, cF, aL, mL, cL, rfl, hres⟩
    clear hcall c0 c1 c2 c3
    obtain ⟨F, hfl, hfs, hfr, -⟩ := hres
    rw [List.nil_append] at hfl
    have hg56 : Grew w5 w6 := hfr.mono (fun i _ e => by rcases e with e | e <;> cases e)
    have HFL := hid hfl
    have HFS := hid hfs
    have HG6 := hid (HG5.out.trans hg56 (fun _ _ f => f))
    have HNS6 := hid (HNS.out.grew hg56)
    have hFl : F.length = x.lams.length := by rw [← hfs, List.length_map]
    have hLl : L.length = F.length := by rw [← HNS.out.len, run_len HRUN.out, hFl]
    have hFlen : F.length ≤ 400 := by
      have h1 := lams_len x
      omega
    obtain ⟨_, _, eF, hF1, hF2⟩ := hfl.rn.shape
    simp only [Value.slice.injEq] at eF
    obtain ⟨rfl, rfl, rfl⟩ := eF
    obtain ⟨_, _, eF, hF3, hF4⟩ := hfl.rx.shape
    simp only [Value.slice.injEq] at eF
    obtain ⟨rfl, rfl, rfl⟩ := eF
    obtain ⟨_, _, eN, hN1, hN2⟩ := HNS.out.row.shape
    simp only [Value.slice.injEq] at eN
    obtain ⟨rfl, eN, rfl⟩ := eN
    rw [hLl] at eN
    subst eN
    replace hF2 : cF ≤ 9223372036854775807 := hF2
    replace hF4 : cL ≤ 9223372036854775807 := hF4
    replace hN2 : cN ≤ 9223372036854775807 := hN2
    have HNEF := hid (show ∀ d ∈ F, (Ne d.x ∧ d.x.size ≤ 400000) ∧ d.x.kind = 6 from fun d hd => lams_all (P := fun y => Ne y ∧ y.size ≤ 400000) (fun k t ns a h y hy => ⟨Ne.parts k t ns a h.1 y hy, size_body h.2 y hy⟩) x ⟨HNE.out, by omega⟩ (d.s, d.x) (by rw [← hfs]; exact List.mem_map.2 ⟨d, hd, rfl⟩))
    have HLL := hid hLl
    clear hfl hfs hfr hg56 hFl hLl hF1 hF3 hN1
    go_wp2
    go_loopw [7] (fun iv wr => ∃ j : Nat, j ≤ F.length ∧ iv = .int .i64 j ∧ Grew w6 wr) (fun iv _ => F.length - (intOf iv).toNat)
    case atStart => exact ⟨0, Nat.zero_le _, rfl, Fr.refl _ _⟩
    case round =>
      obtain ⟨j, hj, rfl, hgr⟩ := hrel
      have HGR := hid hgr
      by_cases hlt : j < F.length
      · obtain ⟨d, hd⟩ := at_of_lt hlt
        obtain ⟨dn, hdn⟩ := at_of_lt (l := L) (i := j) (by have := HLL.out; omega)
        obtain ⟨gL, cL2, eL, -, -, -, -, hcell⟩ := HFL.out.rx.at LmD.xlen (fun e => by rw [e] at hlt; simp at hlt)
        simp only [Value.slice.injEq] at eL
        obtain ⟨rfl, -, rfl⟩ := eL
        obtain ⟨gF, cF2, eF, -, -, -, -, hcelln⟩ := HFL.out.rn.at LmD.nlen (fun e => by rw [e] at hlt; simp at hlt)
        simp only [Value.slice.injEq] at eF
        obtain ⟨rfl, -, rfl⟩ := eF
        have hns := HNS6.out.grew hgr
        obtain ⟨gN, cN2, eN, -, -, -, -, hncell⟩ := hns.row.at NdD.len (fun e => by rw [e] at hdn; simp at hdn)
        simp only [Value.slice.injEq] at eN
        obtain ⟨rfl, -, rfl⟩ := eN
        have q3 : wr.cell? ⟨gL, j * 4 + 3, none⟩ = some (.slice d.aa d.x.parts.length d.ca) := hgr.cell (hcell j d hd 3 (by omega)) (fun f => f)
        have hrd := HFL.out.rd d (List.mem_of_getElem? hd)
        obtain ⟨⟨hne, hxs⟩, hk6⟩ := HNEF.out d (List.mem_of_getElem? hd)
        obtain ⟨bx, rx, hpx, hbx, hnb⟩ := hne.body hk6
        have hrow4 := hrd.2.grew hgr
        rw [hpx] at hrow4
        rcases hrow4.elems with q | ⟨g, o, cap2, ev, hcap1, hcap2, -, hel⟩
        · cases q
        simp only [Value.slice.injEq] at ev
        obtain ⟨eaa, -, rfl⟩ := ev
        obtain ⟨an2, cn2, aa2, ca2, he⟩ := hel 0 bx rfl
        rw [Nat.zero_mul, Nat.add_zero] at he
        rw [eaa] at q3
        have hrdb : Rd wr (fun _ => False) (.agg #[Kv bx.kind, St bx.text, .slice an2 bx.names.length cn2, .slice aa2 bx.parts.length ca2]) bx := ⟨_, _, rfl, he.nm.mono (fun _ _ f => f.elim), he.row.mono (fun _ _ f => f.elim)⟩
        have hcall := demands_any (hns.nd.mono (E := fun _ => False) (fun _ _ f => f.elim)) hrdb hnb.1 hnb.2.1 (body_mem hpx hxs) wr (Fr.refl _ _)
        have hpl : (0 : Int) < (d.x.parts.length : Int) := by rw [hpx]; simp
        obtain ⟨c0, c1⟩ := And.intro he.c0 he.c1
        obtain ⟨c2, c3⟩ := And.intro he.c2 he.c3
        have hfj : x.lams[j]? = some (d.s, d.x) := by rw [← HFS.out, List.getElem?_map, hd]; rfl
        obtain ⟨bs, hbs, hbl⟩ := run_at HRUN.out hfj
        obtain ⟨bs', hb1, hb2, hrb⟩ := HNS6.out.el j dn hdn
        rw [hbs] at hb1
        have hsn : dn.s = d.s := (congrArg Prod.fst (Option.some.inj hb1)).symm
        have hbb : bs' = bs := (congrArg Prod.snd (Option.some.inj hb1)).symm
        subst hbb
        have hdnn : dn.n = d.x.names.length := by rw [← hb2]; exact hbl
        have HBOTH := hid (fun (k : Nat) (s : Str) (b : Bool) (hs : d.x.names[k]? = some s) (hb : bs'[k]? = some b) => show b = true ↔ ((dem nl bx).all ∨ (dem nl bx).mem s) by
          have := fix_both HRUN.out HFIX.out hfj hbs hs hb
          rw [hbx] at this; exact this)
        have HN0 := hid (show wr.cell? ⟨gN, j * 2, none⟩ = some (St d.s) by
          have h := hncell j dn hdn 0 (by omega)
          rw [← hsn]; simpa [NdD.cells] using h)
        have HN1 := hid (show wr.cell? ⟨gN, j * 2 + 1, none⟩ = some (.slice dn.ao d.x.names.length dn.co) by
          have h := hncell j dn hdn 1 (by omega)
          rw [← hdnn]; exact h)
        have HF0 := hid (show wr.cell? ⟨gF, j, none⟩ = some (St d.s) by
          have h := hgr.cell (hcelln j d hd 0 (by omega)) (fun f => f)
          simpa [LmD.nc] using h)
        have HL2 := hid (show wr.cell? ⟨gL, j * 4 + 2, none⟩ = some (.slice d.an d.x.names.length d.cn) from hgr.cell (hcell j d hd 2 (by omega)) (fun f => f))
        have HNM := hid (hrd.1.grew hgr)
        have HRB := hid (hrb.kept hgr (fun _ _ f => f))
        have HBL := hid hbl
        have hnlen : d.x.names.length ≤ 900 := by
          have := hne.2.1
          generalize d.x = y at this
          cases this with | mk k t ns a ht hn ha h => exact hn
        have HDV := hid (show dn.v = .slice dn.ao dn.n dn.co from rfl)
        have HDNN := hid hdnn
        clear hcell hcelln hncell hrd hne hk6 hpx hbx hnb hrow4 hel he hrdb hfj hbs hbl hb1 hb2 hrb hsn hdnn hns hcap1 hcap2 hxs eaa hd hdn
        go_upto_region 14 with (go_at_call 24; (with_reducible refine hcall.mono ?_); rintro e w7 ⟨aK, cK, A, ks, rfl, hrs, hg7⟩; clear hcall c0 c1 c2 c3 q3)
        obtain ⟨dm, hdm⟩ : ∃ q, q = dem nl bx := ⟨_, rfl⟩
        rw [← hdm] at hrs HBOTH
        have HRS := hid hrs
        have HG7 := hid hg7
        have HN07 := hid (hg7.cell HN0.out (fun f => f))
        have HN17 := hid (hg7.cell HN1.out (fun f => f))
        have HF07 := hid (hg7.cell HF0.out (fun f => f))
        have HL27 := hid (hg7.cell HL2.out (fun f => f))
        clear hrs hg7 hdm hgr
        refine Rg.wp_region_facts 25 Grew [(48, Rg.Ex (.slice (some ⟨gN, 0, none⟩) F.length cN)), (49, Rg.Ex (.int .i64 (j : Int))), (50, Rg.Ex (.pointer (some ⟨gN, j * 2, none⟩))), (51, Rg.Ex (.pointer (some ⟨gN, j * 2, none⟩))), (52, Rg.Ex (St d.s)), (53, Rg.Ex (.slice (some ⟨gF, 0, none⟩) F.length cF)), (54, Rg.Ex (.int .i64 (j : Int))), (55, Rg.Ex (.pointer (some ⟨gF, j, none⟩))), (56, Rg.Ex (St d.s)), (57, Rg.Ex (.bool false)), (58, Rg.Ex (.bool false)), (59, Rg.Ex (.slice (some ⟨gN, 0, none⟩) F.length cN)), (60, Rg.Ex (.int .i64 (j : Int))), (61, Rg.Ex (.pointer (some ⟨gN, j * 2, none⟩))), (62, Rg.Ex (.pointer (some ⟨gN, j * 2 + 1, none⟩))), (63, Rg.Ex (.slice dn.ao d.x.names.length dn.co)), (64, Rg.Ex (.int .i64 (d.x.names.length : Int))), (65, Rg.Ex (.slice (some ⟨gL, 0, none⟩) F.length cL)), (66, Rg.Ex (.int .i64 (j : Int))), (67, Rg.Ex (.pointer (some ⟨gL, j * 4, none⟩))), (68, Rg.Ex (.pointer (some ⟨gL, j * 4 + 2, none⟩))), (69, Rg.Ex (.slice d.an d.x.names.length d.cn)), (70, Rg.Ex (.int .i64 (d.x.names.length : Int))), (71, Rg.Ex (.bool false)), (72, Rg.Ex (.bool false))] (by kernel_rfl) (by kernel_rfl) (by rfl) (by rfl)
          (fun a => Fr.refl _ a) (fun a b c h k => h.trans k (fun _ _ f => f)) (Fr.refl _ _).drew
          (Rg.Stays.all ⟨Rg.Ex.stays _, Rg.Ex.stays _, Rg.Ex.stays _, Rg.Ex.stays _, Rg.Ex.stays _, Rg.Ex.stays _, Rg.Ex.stays _, Rg.Ex.stays _, Rg.Ex.stays _, Rg.Ex.stays _, Rg.Ex.stays _, Rg.Ex.stays _, Rg.Ex.stays _, Rg.Ex.stays _, Rg.Ex.stays _, Rg.Ex.stays _, Rg.Ex.stays _, Rg.Ex.stays _, Rg.Ex.stays _, Rg.Ex.stays _, Rg.Ex.stays _, Rg.Ex.stays _, Rg.Ex.stays _, Rg.Ex.stays _, Rg.Ex.stays _, trivial⟩) ?_ ?_
        · go_light
          refine Rg.OpGoals.cons (Rg.OpGoal.plain rfl ?_) (Rg.OpGoals.cons (Rg.OpGoal.plain rfl ?_) (Rg.OpGoals.cons (Rg.OpGoal.plain rfl ?_) (Rg.OpGoals.cons (Rg.OpGoal.plain rfl ?_) (Rg.OpGoals.cons (Rg.OpGoal.plain rfl ?_) (Rg.OpGoals.cons (Rg.OpGoal.plain rfl ?_) (Rg.OpGoals.cons (Rg.OpGoal.plain rfl ?_) (Rg.OpGoals.cons (Rg.OpGoal.plain rfl ?_) (Rg.OpGoals.cons (Rg.OpGoal.plain rfl ?_) (Rg.OpGoals.cons (Rg.OpGoal.plain rfl ?_) (Rg.OpGoals.cons (Rg.OpGoal.plain rfl ?_) (Rg.OpGoals.cons (Rg.OpGoal.guarded (d := 58) (want := false) rfl (fun _ _ h => h) ?_) (Rg.OpGoals.cons (Rg.OpGoal.guarded (d := 58) (want := false) rfl (fun _ _ h => h) ?_) (Rg.OpGoals.cons (Rg.OpGoal.guarded (d := 58) (want := false) rfl (fun _ _ h => h) ?_) (Rg.OpGoals.cons (Rg.OpGoal.guarded (d := 58) (want := false) rfl (fun _ _ h => h) ?_) (Rg.OpGoals.cons (Rg.OpGoal.guarded (d := 58) (want := false) rfl (fun _ _ h => h) ?_) (Rg.OpGoals.cons (Rg.OpGoal.guarded (d := 58) (want := false) rfl (fun _ _ h => h) ?_) (Rg.OpGoals.cons (Rg.OpGoal.guarded (d := 58) (want := false) rfl (fun _ _ h => h) ?_) (Rg.OpGoals.cons (Rg.OpGoal.guarded (d := 58) (want := false) rfl (fun _ _ h => h) ?_) (Rg.OpGoals.cons (Rg.OpGoal.guarded (d := 58) (want := false) rfl (fun _ _ h => h) ?_) (Rg.OpGoals.cons (Rg.OpGoal.guarded (d := 58) (want := false) rfl (fun _ _ h => h) ?_) (Rg.OpGoals.cons (Rg.OpGoal.guarded (d := 58) (want := false) rfl (fun _ _ h => h) ?_) (Rg.OpGoals.cons (Rg.OpGoal.guarded (d := 58) (want := false) rfl (fun _ _ h => h) ?_) (Rg.OpGoals.cons (Rg.OpGoal.guarded (d := 58) (want := false) rfl (fun _ _ h => h) ?_) (Rg.OpGoals.cons (Rg.OpGoal.plain rfl ?_) Rg.OpGoals.none))))))))))))))))))))))))
          all_goals (intro a' w' hS hR; simp [Rg.Rd, Op.operands, Call.operands, Rg.Fk, Rg.Ex] at hR)
          all_goals (have n0' := hS.cell HN07.out (fun f => f))
          all_goals (have n1' := hS.cell HN17.out (fun f => f))
          all_goals (have f0' := hS.cell HF07.out (fun f => f))
          all_goals (have l2' := hS.cell HL27.out (fun f => f))
          all_goals try (simp [Rg.Yields, execOp, Act.eval, hR, n0', n1', f0', l2', hlt, go_sem, Rg.Fk, Rg.Ex, Fr.refl]; done)
        · intro w8 hS
          rintro _ rfl _ rfl _ rfl _ rfl _ rfl _ rfl _ rfl _ rfl _ rfl _ rfl _ rfl _ rfl _ rfl _ rfl _ rfl _ rfl _ rfl _ rfl _ rfl _ rfl _ rfl _ rfl _ rfl _ rfl _ rfl
          refine Rg.Then.nil ?_
          have HG8 := hid (HG7.out.trans hS (fun _ _ f => f))
          have HG78 := hid hS
          clear hS
          go_wp2
          go_loopw [10] (fun iv wz => ∃ k : Nat, k ≤ d.x.names.length ∧ iv = .int .i64 k ∧ Grew w7 wz) (fun iv _ => d.x.names.length - (intOf iv).toNat)
          case atStart => exact ⟨0, Nat.zero_le _, rfl, HG78.out⟩
          case round =>
            obtain ⟨k, hk, rfl, hgz⟩ := hrel
            have HGZ := hid hgz
            have nz := hgz.cell HN17.out (fun f => f)
            by_cases hkl : k < d.x.names.length
            · obtain ⟨s, hs⟩ := at_of_lt hkl
              obtain ⟨dan, hdan⟩ : ∃ q, d.an = q := ⟨_, rfl⟩
              have hnm := HNM.out
              have hl2 := hgz.cell HL27.out (fun f => f)
              rw [hdan] at hnm hl2
              obtain ⟨gn, on, cn', e, -, -, -, hnel⟩ := hnm.row (fun e => by rw [e] at hkl; simp at hkl)
              simp only [Value.slice.injEq] at e
              obtain ⟨rfl, -, ecn⟩ := e
              obtain ⟨b, hb⟩ := at_of_lt (l := bs') (i := k) (by have := HBL.out; omega)
              obtain ⟨gB, cap9, e9, -, -, -, -, hbc, -⟩ := HRB.out.at (fun e => by rw [e] at hb; simp at hb)
              have e9' : dn.ao = some ⟨gB, 0, none⟩ := by
                simp only [NdD.v, Value.slice.injEq] at e9
                exact e9.1
              have HNZ := hid (show wr.cell? ⟨gN, j * 2 + 1, none⟩ = some (Value.slice (some ⟨gB, 0, none⟩) d.x.names.length dn.co) by rw [← e9']; exact nz)
              have HBC := hid ((HG7.out.trans hgz (fun _ _ f => f)).cell (hbc k b hb) (fun f => f))
              have HNA := hid ((HG7.out.trans hgz (fun _ _ f => f)).cell (hnel k s hs) (fun f => f))
              have HL2z := hid hl2
              have HBT := hid (HBOTH.out k s b hs hb)
              have HRSz := hid (HRS.out.kept hgz)
              clear hs hb hnel hbc hl2 hnm ecn e9 e9' hdan hgz
              go_upto_region 19 with (fail)
              clear nz
              cases A
              case true =>
                obtain rfl : b = true := HBT.out.2 (.inl (HRSz.out.all.1 rfl))
                refine Rg.wp_region_facts 22 Grew [(83, Rg.Ex (.slice (some ⟨gN, 0, none⟩) F.length cN)), (84, Rg.Ex (.int .i64 (j : Int))), (85, Rg.Ex (.pointer (some ⟨gN, j * 2, none⟩))), (86, Rg.Ex (.pointer (some ⟨gN, j * 2 + 1, none⟩))), (87, Rg.Ex (.slice (some ⟨gB, 0, none⟩) d.x.names.length dn.co)), (88, Rg.Ex (.int .i64 (k : Int))), (89, Rg.Ex (.pointer (some ⟨gB, k, none⟩))), (90, Rg.Ex (.bool true)), (91, Rg.Ex (.bool true)), (92, Rg.Ex (.bool true)), (93, Rg.Ex (undef)), (94, Rg.Ex (undef)), (95, Rg.Ex (undef)), (96, Rg.Ex (undef)), (97, Rg.Ex (undef)), (98, Rg.Ex (undef)), (99, Rg.Ex (undef)), (100, Rg.Ex (undef)), (101, Rg.Ex (undef)), (102, Rg.Ex (undef)), (103, Rg.Ex (.bool true)), (104, Rg.Ex (.bool false))] (by kernel_rfl) (by kernel_rfl) (by rfl) (by rfl)
                  (fun a => Fr.refl _ a) (fun a b c h k => h.trans k (fun _ _ f => f)) (Fr.refl _ _).drew
                  (Rg.Stays.all ⟨Rg.Ex.stays _, Rg.Ex.stays _, Rg.Ex.stays _, Rg.Ex.stays _, Rg.Ex.stays _, Rg.Ex.stays _, Rg.Ex.stays _, Rg.Ex.stays _, Rg.Ex.stays _, Rg.Ex.stays _, Rg.Ex.stays _, Rg.Ex.stays _, Rg.Ex.stays _, Rg.Ex.stays _, Rg.Ex.stays _, Rg.Ex.stays _, Rg.Ex.stays _, Rg.Ex.stays _, Rg.Ex.stays _, Rg.Ex.stays _, Rg.Ex.stays _, Rg.Ex.stays _, trivial⟩) ?_ ?_
                · go_light
                  refine Rg.OpGoals.cons (Rg.OpGoal.plain rfl ?_) (Rg.OpGoals.cons (Rg.OpGoal.plain rfl ?_) (Rg.OpGoals.cons (Rg.OpGoal.plain rfl ?_) (Rg.OpGoals.cons (Rg.OpGoal.plain rfl ?_) (Rg.OpGoals.cons (Rg.OpGoal.plain rfl ?_) (Rg.OpGoals.cons (Rg.OpGoal.plain rfl ?_) (Rg.OpGoals.cons (Rg.OpGoal.plain rfl ?_) (Rg.OpGoals.cons (Rg.OpGoal.plain rfl ?_) (Rg.OpGoals.cons (Rg.OpGoal.plain rfl ?_) (Rg.OpGoals.cons (Rg.OpGoal.plain rfl ?_) (Rg.OpGoals.cons (Rg.OpGoal.passed (d := 92) (want := false) rfl (fun _ _ h e => nomatch (h.symm.trans e)) (fun _ _ h => by cases h; rfl)) (Rg.OpGoals.cons (Rg.OpGoal.passed (d := 92) (want := false) rfl (fun _ _ h e => nomatch (h.symm.trans e)) (fun _ _ h => by cases h; rfl)) (Rg.OpGoals.cons (Rg.OpGoal.passed (d := 92) (want := false) rfl (fun _ _ h e => nomatch (h.symm.trans e)) (fun _ _ h => by cases h; rfl)) (Rg.OpGoals.cons (Rg.OpGoal.passed (d := 92) (want := false) rfl (fun _ _ h e => nomatch (h.symm.trans e)) (fun _ _ h => by cases h; rfl)) (Rg.OpGoals.cons (Rg.OpGoal.passed (d := 92) (want := false) rfl (fun _ _ h e => nomatch (h.symm.trans e)) (fun _ _ h => by cases h; rfl)) (Rg.OpGoals.cons (Rg.OpGoal.passed (d := 92) (want := false) rfl (fun _ _ h e => nomatch (h.symm.trans e)) (fun _ _ h => by cases h; rfl)) (Rg.OpGoals.cons (Rg.OpGoal.passed (d := 92) (want := false) rfl (fun _ _ h e => nomatch (h.symm.trans e)) (fun _ _ h => by cases h; rfl)) (Rg.OpGoals.cons (Rg.OpGoal.passed (d := 92) (want := false) rfl (fun _ _ h e => nomatch (h.symm.trans e)) (fun _ _ h => by cases h; rfl)) (Rg.OpGoals.cons (Rg.OpGoal.passed (d := 92) (want := false) rfl (fun _ _ h e => nomatch (h.symm.trans e)) (fun _ _ h => by cases h; rfl)) (Rg.OpGoals.cons (Rg.OpGoal.passed (d := 92) (want := false) rfl (fun _ _ h e => nomatch (h.symm.trans e)) (fun _ _ h => by cases h; rfl)) (Rg.OpGoals.cons (Rg.OpGoal.plain rfl ?_) (Rg.OpGoals.cons (Rg.OpGoal.plain rfl ?_) Rg.OpGoals.none)))))))))))))))))))))
                  all_goals (intro a' w' hS hR; simp [Rg.Rd, Op.operands, Rg.Fk, Rg.Ex] at hR)
                  all_goals (have n1' := hS.cell HNZ.out (fun f => f))
                  all_goals (have bc' := hS.cell HBC.out (fun f => f))
                  all_goals try (simp [Rg.Yields, execOp, Act.eval, hR, n1', bc', hlt, hkl, go_sem, Rg.Fk, Rg.Ex, Fr.refl]; done)
                · intro w9 hS
                  rintro _ rfl _ rfl _ rfl _ rfl _ rfl _ rfl _ rfl _ rfl _ rfl _ rfl _ rfl _ rfl _ rfl _ rfl _ rfl _ rfl _ rfl _ rfl _ rfl _ rfl _ rfl _ rfl
                  refine Rg.Then.nil ?_
                  have HG9 := hid (HGZ.out.trans hS (fun _ _ f => f))
                  clear hS
                  go_wp2
                  go_roundw
                  case rel => exact ⟨k + 1, by omega, by go_num, HG9.out⟩
                  case measure => simp [intOf]; omega
              case false =>
                have HDEC := hid (show decide (s ∈ ks) = b from by
                  have h1 := HBT.out
                  have h2 : ¬ dm.all := fun z => by have := HRSz.out.all.2 z; cases this
                  have h3 := HRSz.out.mem rfl s
                  cases b
                  · refine decide_eq_false (fun z => ?_)
                    have := h1.2 (.inr (h3.1 z))
                    cases this
                  · exact decide_eq_true (h3.2 ((h1.1 rfl).resolve_left h2)))
                refine Rg.wp_region_facts 22 Grew [(83, Rg.Ex (.slice (some ⟨gN, 0, none⟩) F.length cN)), (84, Rg.Ex (.int .i64 (j : Int))), (85, Rg.Ex (.pointer (some ⟨gN, j * 2, none⟩))), (86, Rg.Ex (.pointer (some ⟨gN, j * 2 + 1, none⟩))), (87, Rg.Ex (.slice (some ⟨gB, 0, none⟩) d.x.names.length dn.co)), (88, Rg.Ex (.int .i64 (k : Int))), (89, Rg.Ex (.pointer (some ⟨gB, k, none⟩))), (90, Rg.Ex (.bool b)), (91, Rg.Ex (.bool false)), (92, Rg.Ex (.bool false)), (93, Rg.Ex (.slice aK ks.length cK)), (94, Rg.Ex (.slice (some ⟨gL, 0, none⟩) F.length cL)), (95, Rg.Ex (.int .i64 (j : Int))), (96, Rg.Ex (.pointer (some ⟨gL, j * 4, none⟩))), (97, Rg.Ex (.pointer (some ⟨gL, j * 4 + 2, none⟩))), (98, Rg.Ex (.slice (some ⟨gn, on, none⟩) d.x.names.length d.cn)), (99, Rg.Ex (.int .i64 (k : Int))), (100, Rg.Ex (.pointer (some ⟨gn, on + k, none⟩))), (101, Rg.Ex (St s)), (102, Rg.Ex (.bool b)), (103, Rg.Ex (.bool b)), (104, Rg.Ex (.bool false))] (by kernel_rfl) (by kernel_rfl) (by rfl) (by rfl)
                  (fun a => Fr.refl _ a) (fun a b c h k => h.trans k (fun _ _ f => f)) (Fr.refl _ _).drew
                  (Rg.Stays.all ⟨Rg.Ex.stays _, Rg.Ex.stays _, Rg.Ex.stays _, Rg.Ex.stays _, Rg.Ex.stays _, Rg.Ex.stays _, Rg.Ex.stays _, Rg.Ex.stays _, Rg.Ex.stays _, Rg.Ex.stays _, Rg.Ex.stays _, Rg.Ex.stays _, Rg.Ex.stays _, Rg.Ex.stays _, Rg.Ex.stays _, Rg.Ex.stays _, Rg.Ex.stays _, Rg.Ex.stays _, Rg.Ex.stays _, Rg.Ex.stays _, Rg.Ex.stays _, Rg.Ex.stays _, trivial⟩) ?_ ?_
                · go_light
                  refine Rg.OpGoals.cons (Rg.OpGoal.plain rfl ?_) (Rg.OpGoals.cons (Rg.OpGoal.plain rfl ?_) (Rg.OpGoals.cons (Rg.OpGoal.plain rfl ?_) (Rg.OpGoals.cons (Rg.OpGoal.plain rfl ?_) (Rg.OpGoals.cons (Rg.OpGoal.plain rfl ?_) (Rg.OpGoals.cons (Rg.OpGoal.plain rfl ?_) (Rg.OpGoals.cons (Rg.OpGoal.plain rfl ?_) (Rg.OpGoals.cons (Rg.OpGoal.plain rfl ?_) (Rg.OpGoals.cons (Rg.OpGoal.plain rfl ?_) (Rg.OpGoals.cons (Rg.OpGoal.plain rfl ?_) (Rg.OpGoals.cons (Rg.OpGoal.guarded (d := 92) (want := false) rfl (fun _ _ h => h) ?_) (Rg.OpGoals.cons (Rg.OpGoal.guarded (d := 92) (want := false) rfl (fun _ _ h => h) ?_) (Rg.OpGoals.cons (Rg.OpGoal.guarded (d := 92) (want := false) rfl (fun _ _ h => h) ?_) (Rg.OpGoals.cons (Rg.OpGoal.guarded (d := 92) (want := false) rfl (fun _ _ h => h) ?_) (Rg.OpGoals.cons (Rg.OpGoal.guarded (d := 92) (want := false) rfl (fun _ _ h => h) ?_) (Rg.OpGoals.cons (Rg.OpGoal.guarded (d := 92) (want := false) rfl (fun _ _ h => h) ?_) (Rg.OpGoals.cons (Rg.OpGoal.guarded (d := 92) (want := false) rfl (fun _ _ h => h) ?_) (Rg.OpGoals.cons (Rg.OpGoal.guarded (d := 92) (want := false) rfl (fun _ _ h => h) ?_) (Rg.OpGoals.cons (Rg.OpGoal.guarded (d := 92) (want := false) rfl (fun _ _ h => h) ?_) (Rg.OpGoals.cons (Rg.OpGoal.guarded (d := 92) (want := false) rfl (fun _ _ h => h) ?_) (Rg.OpGoals.cons (Rg.OpGoal.plain rfl ?_) (Rg.OpGoals.cons (Rg.OpGoal.plain rfl ?_) Rg.OpGoals.none)))))))))))))))))))))
                  all_goals (intro a' w' hS hR; simp [Rg.Rd, Op.operands, Call.operands, Rg.Fk, Rg.Ex] at hR)
                  all_goals (have n1' := hS.cell HNZ.out (fun f => f))
                  all_goals (have bc' := hS.cell HBC.out (fun f => f))
                  all_goals (have l2' := hS.cell HL2z.out (fun f => f))
                  all_goals (have na' := hS.cell HNA.out (fun f => f))
                  all_goals try (simp [Rg.Yields, execOp, Act.eval, hR, n1', bc', l2', na', hlt, hkl, go_sem, Rg.Fk, Rg.Ex, Fr.refl]; done)
                  · simp [Rg.Yields, Act.eval, hR, go_sem, Rg.Fk, Rg.Ex]
                    refine (in_any (HRSz.out.nm.grew hS) s).mono ?_
                    rintro e w2 ⟨rfl, rfl⟩
                    exact ⟨_, rfl, by rw [HDEC.out], Fr.refl _ _⟩
                · intro w9 hS
                  rintro _ rfl _ rfl _ rfl _ rfl _ rfl _ rfl _ rfl _ rfl _ rfl _ rfl _ rfl _ rfl _ rfl _ rfl _ rfl _ rfl _ rfl _ rfl _ rfl _ rfl _ rfl _ rfl
                  refine Rg.Then.nil ?_
                  have HG9 := hid (HGZ.out.trans hS (fun _ _ f => f))
                  clear hS
                  go_wp2
                  go_roundw
                  case rel => exact ⟨k + 1, by omega, by go_num, HG9.out⟩
                  case measure => simp [intOf]; omega
            · obtain rfl : k = d.x.names.length := by omega
              have HG9 := hid ((HGR.out.trans HG7.out (fun _ _ f => f)).trans hgz (fun _ _ f => f))
              clear hgz
              go_wp2
              go_roundw
              case rel => exact ⟨j + 1, by omega, by go_num, HG9.out⟩
              case measure => simp [intOf]; omega
      · obtain rfl : j = F.length := by omega
        clear hgr
        go_wp2
        go_ret
        exact ⟨rfl, HG6.out.trans HGR.out (fun _ _ f => f)⟩
end Go.Proofs.Ytddcfnjmppijjaa
