import Derived.Test.YtddcfnjmppijjaaV1
import Derived.Test.YtddcfnjmppijjaaU16
/-! thunkref8.Lambdas. -/
namespace Go.Proofs.Ytddcfnjmppijjaa
open Go.RowKit

/-- a function in memory: its name, its term -/
structure LmD where
  s : Str
  x : X
  an : Option Addr
  cn : Nat
  aa : Option Addr
  ca : Nat
def LmD.nc (d : LmD) : List Value := [St d.s]
def LmD.xc (d : LmD) : List Value := [Kv d.x.kind, St d.x.text, .slice d.an d.x.names.length d.cn, .slice d.aa d.x.parts.length d.ca]
def LmD.fn (d : LmD) : Str × X := (d.s, d.x)
theorem LmD.nlen (d : LmD) : d.nc.length = 1 := rfl
theorem LmD.xlen (d : LmD) : d.xc.length = 4 := rfl
theorem LmD.none' (d : LmD) : ∀ u ∈ d.nc, u.oneCell' = true := fun u hu => by
  simp [LmD.nc] at hu
  rcases hu with rfl; rfl
theorem LmD.xone (d : LmD) : ∀ u ∈ d.xc, u.oneCell' = true := fun u hu => by
  simp [LmD.xc] at hu
  rcases hu with rfl | rfl | rfl | rfl <;> rfl
theorem ty25 : ElTy 25 9 1 := .of (bytes := 16) (z := .string ⟨#[]⟩) Try.u25 Try.i9 (by omega) rfl (by omega)
theorem ty26 : ElTy 26 28 4 := .of (bytes := 72) (z := .agg #[.int .i64 0, .string ⟨#[]⟩, .slice none 0 0, .slice none 0 0]) Try.u26 Try.i28 (by omega) rfl (by omega)

/-- functions in memory, in two rows -/
structure LmL (D : Nat → Prop) (B : Nat) (w : World) (vN vL : Value) (L : List LmD) : Prop where
  rn : RowOf 9 1 LmD.nc B w vN L
  rx : RowOf 28 4 LmD.xc B w vL L
  rd : ∀ d ∈ L, Nm w D (.slice d.an d.x.names.length d.cn) d.x.names ∧ Row w D (.slice d.aa d.x.parts.length d.ca) d.x.parts
theorem LmL.nil (D : Nat → Prop) (B : Nat) (w : World) : LmL D B w (.slice none 0 0) (.slice none 0 0) [] := ⟨RowOf.nil _ _ _ _ _, RowOf.nil _ _ _ _ _, by simp⟩
theorem LmL.grew {D : Nat → Prop} {B : Nat} {w w' : World} {vN vL : Value} {L : List LmD} (h : LmL D B w vN vL L) (k : Grew w w') : LmL D B w' vN vL L :=
  ⟨h.rn.grew k, h.rx.grew k, fun d hd => ⟨(h.rd d hd).1.grew k, (h.rd d hd).2.grew k⟩⟩
/-- which blocks Lambdas may write -/
def OW (vN vL : Value) : Nat → Prop := fun b => vN.ownBlock = some b ∨ vL.ownBlock = some b
/-- what Lambdas answers -/
def LmRes (D : Nat → Prop) (B : Nat) (w : World) (vN vL : Value) (L : List LmD) (fs : List (Str × X)) (vN' vL' : Value) (w' : World) : Prop :=
  ∃ M, LmL D B w' vN' vL' (L ++ M) ∧ M.map LmD.fn = fs ∧ Fr (OW vN vL) w w' ∧ ∀ g, OW vN' vL' g → OW vN vL g ∨ w.heap.size ≤ g
theorem LmRes.start {D : Nat → Prop} {B : Nat} {w : World} {vN vL : Value} {L : List LmD} (h : LmL D B w vN vL L) : LmRes D B w vN vL L [] vN vL w := ⟨[], by simpa using h, rfl, Fr.refl _ _, fun _ h => .inl h⟩
theorem LmRes.grew {D : Nat → Prop} {B : Nat} {w w2 w' : World} {vN vL vN' vL' : Value} {L : List LmD} {fs : List (Str × X)} (h : LmRes D B w vN vL L fs vN' vL' w2) (k : Grew w2 w') : LmRes D B w vN vL L fs vN' vL' w' := by
  obtain ⟨M, h1, h2, h3, h4⟩ := h
  exact ⟨M, h1.grew k, h2, h3.trans (Grew.any k) (fun _ _ e => e), h4⟩
theorem LmRes.trans {D : Nat → Prop} {B : Nat} {w w1 w2 : World} {vN vL v1 u1 v2 u2 : Value} {L M : List LmD} {fs gs : List (Str × X)} (h3 : Fr (OW vN vL) w w1) (hM : M.map LmD.fn = fs) (h4 : ∀ g, OW v1 u1 g → OW vN vL g ∨ w.heap.size ≤ g) (k : LmRes D B w1 v1 u1 (L ++ M) gs v2 u2 w2) : LmRes D B w vN vL L (fs ++ gs) v2 u2 w2 := by
  obtain ⟨N, k1, k2, k3, k4⟩ := k
  refine ⟨M ++ N, by rw [← List.append_assoc]; exact k1, by rw [List.map_append, hM, k2], h3.trans k3 (fun i hi e => (h4 i e).resolve_right (by omega)), fun g hg => ?_⟩
  rcases k4 g hg with q | q
  · exact h4 g q
  · have := h3.size; exact .inr (by omega)
def LmPost (D : Nat → Prop) (B : Nat) (w : World) (vN vL : Value) (L : List LmD) (fs : List (Str × X)) (e : Ending) (w' : World) : Prop := ∃ a m c a' m' c', e = .returned (.tuple #[.slice a m c, .slice a' m' c']) ∧ LmRes D B w vN vL L fs (.slice a m c) (.slice a' m' c') w'
def LmAt (w0 : World) (av : Option Addr) (l : List X) : Prop :=
  l ≠ [] → ∃ g o, av = some ⟨g, o, none⟩ ∧ ∀ i x, l[i]? = some x → ∃ an cn aa ca, El w0 (fun b => w0.heap.size ≤ b) g (o + i * 4) x an cn aa ca ∧ ∀ w' B vN vL L, Grew w0 w' → w0.heap.size ≤ B → B ≤ w'.heap.size → LmL (fun b => w0.heap.size ≤ b) B w' vN vL L → L.length + x.size ≤ 900000 →
    Calls Try.prog 23 #[.agg #[Kv x.kind, St x.text, .slice an x.names.length cn, .slice aa x.parts.length ca], vN, vL] w' (LmPost (fun b => w0.heap.size ≤ b) B w' vN vL L x.lams)
/-- both rows with one more -/
theorem LmL.both {D : Nat → Prop} {B : Nat} {wr w : World} {vN vL v u : Value} {L : List LmD} {d : LmD} (h : LmL D B wr vN vL L) (hf : Fr (OW vN vL) wr w) (h1 : RowOf 9 1 LmD.nc B w v (L ++ [d])) (h2 : RowOf 28 4 LmD.xc B w u (L ++ [d]))
    (hrd : Nm wr D (.slice d.an d.x.names.length d.cn) d.x.names ∧ Row wr D (.slice d.aa d.x.parts.length d.ca) d.x.parts) (hD : ∀ b, B ≤ b → D b) : LmL D B w v u (L ++ [d]) := by
  have hFD : ∀ b, OW vN vL b → D b := fun b e => hD b (e.elim (fun q => (h.rn.lt q).1) (fun q => (h.rx.lt q).1))
  refine ⟨h1, h2, fun d' hd' => ?_⟩
  rcases List.mem_append.1 hd' with q | q
  · exact ⟨(h.rd d' q).1.kept hf hFD, (h.rd d' q).2.kept hf hFD⟩
  · simp at q
    subst q
    exact ⟨hrd.1.kept hf hFD, hrd.2.kept hf hFD⟩

/-- the first j of a let's functions -/
def lamP (k : Int) (ns : List Str) (l : List X) (j : Nat) : List (Str × X) := if k = 9 then ((ns.zip l).take j).filter (fun p => decide (p.2.kind = 6)) else []
theorem lamP_nine (ns : List Str) (l : List X) (j : Nat) : lamP 9 ns l j = ((ns.zip l).take j).filter (fun p => decide (p.2.kind = 6)) := rfl
theorem lamP_zero (k : Int) (ns : List Str) (l : List X) : lamP k ns l 0 = [] := by unfold lamP; split <;> simp
def J0 (k : Int) (j : Nat) : Prop := k ≠ 9 → j = 0

set_option maxHeartbeats 8000000 in
set_option maxRecDepth 100000 in
theorem lam_core {w0 : World} {av : Option Addr} {l : List X} {cap : Nat} (H : LmAt w0 av l) (w : World) (B : Nat) (aN : Option Addr) (mN cN : Nat) (aL : Option Addr) (mL cL : Nat) (L : List LmD) (hw : Grew w0 w) (hB0 : w0.heap.size ≤ B) (hB : B ≤ w.heap.size) (hL : LmL (fun b => w0.heap.size ≤ b) B w (.slice aN mN cN) (.slice aL mL cL) L) (k : Int) (t : Str) (vn : Value) (ns : List Str)
    (hsz : L.length + (1 + sizes l) ≤ 900000) (hnm : Nm w0 (fun b => w0.heap.size ≤ b) vn ns) (hll : k = 9 → l.length = ns.length + 1) :
    Calls Try.prog 23 #[.agg #[Kv k, St t, vn, .slice av l.length cap], .slice aN mN cN, .slice aL mL cL] w (LmPost (fun b => w0.heap.size ≤ b) B w (.slice aN mN cN) (.slice aL mL cL) L (lamH k ns l ++ lamsL l)) := by
  obtain ⟨an, cn, rfl, hn1, hn2⟩ := hnm.shape
  replace hn2 : cn ≤ 9223372036854775807 := hn2
  obtain ⟨W1, hW1⟩ : ∃ q : World, q = w.alloc (.cells #[Kv k, St t, .slice an ns.length cn, .slice av l.length cap] 28) := ⟨_, rfl⟩
  have g1 : Grew w W1 := by rw [hW1]; exact (Fr.refl _ _).alloc _
  have hbe : W1.heap[w.heap.size]? = some (.cells #[Kv k, St t, .slice an ns.length cn, .slice av l.length cap] 28 (0, 0)) := by rw [hW1]; exact heap_alloc_new w _
  have HBE := hid hbe
  have HG1 := hid g1
  have HG01 := hid (hw.trans g1 (fun _ _ f => f))
  have HL1 := hid (hL.grew g1)
  have HH := hid H
  have HNM := hid hnm
  have HLL := hid hll
  have hll6 : l.length ≤ 900000 := by have := len_le_sizes l; omega
  have HSZ := hid hsz
  have hw0 := hid hw.size
  have HOWN := hid (show ∀ b, OW (.slice aN mN cN) (.slice aL mL cL) b → B ≤ b ∧ b < w.heap.size from fun b e => e.elim (fun q => hL.rn.lt q) (fun q => hL.rx.lt q))
  have HBE0 := hid (cell_of_get HBE.out 0)
  have HBE2 := hid (cell_of_get HBE.out 2)
  have HBE3 := hid (show W1.cell? ⟨w.heap.size, 3, none⟩ = some (.slice av l.length cap) from cell_of_get HBE.out 3)
  have HEX := hid (show ∀ wr, Fr (OW (.slice aN mN cN) (.slice aL mL cL)) W1 wr → ∀ i u, W1.cell? ⟨w.heap.size, i, none⟩ = some u → wr.cell? ⟨w.heap.size, i, none⟩ = some u from fun wr hf i u hc => hf.cell hc (fun e => by
    have e' : OW (.slice aN mN cN) (.slice aL mL cL) w.heap.size := e
    have := (HOWN.out _ e').2; omega))
  clear H hL hnm hll hw g1 hbe hsz
  go_enter Try.func23, Try.ntmps23
  go_upto_region 1 with (fail)
  rw [← hW1]
  clear hW1
  go_wp2
  go_loopw [1, 2, 8] (fun q lv iv wr => ∃ (j : Nat) (a2 : Option Addr) (m2 c2 : Nat) (a3 : Option Addr) (m3 c3 : Nat), j ≤ ns.length ∧ J0 k j ∧ iv = .int .i64 j ∧ q = .slice a2 m2 c2 ∧ lv = .slice a3 m3 c3 ∧ LmRes (fun b => w0.heap.size ≤ b) B W1 (.slice aN mN cN) (.slice aL mL cL) L (lamP k ns l j) (.slice a2 m2 c2) (.slice a3 m3 c3) wr) (fun _ _ iv _ => ns.length - (intOf iv).toNat)
  case atStart => exact ⟨0, aN, mN, cN, aL, mL, cL, Nat.zero_le _, fun _ => rfl, rfl, rfl, rfl, by rw [lamP_zero]; exact LmRes.start HL1.out⟩
  case round =>
    obtain ⟨j, a2, m2, c2, a3, m3, c3, hj, hj0, rfl, rfl, rfl, hres⟩ := hrel
    have HRS := hid hres
    have HJ0 := hid hj0
    have HF := hid (show Fr (OW (.slice aN mN cN) (.slice aL mL cL)) W1 wr from by obtain ⟨_, -, -, h3, -⟩ := hres; exact h3)
    clear hj0
    have e0 := HEX.out wr HF.out 0 _ HBE0.out
    have e2 := HEX.out wr HF.out 2 _ HBE2.out
    by_cases hgo : k = 9 ∧ j < ns.length
    · obtain ⟨rfl, hlt⟩ := hgo
      have hll := HLL.out rfl
      rw [lamP_nine] at hres
      obtain ⟨s, hs⟩ := at_of_lt hlt
      obtain ⟨x, hx⟩ := at_of_lt (l := l) (i := j) (by omega)
      obtain ⟨gn, on, cn', e, -, -, hgn, hnel⟩ := HNM.out.row (fun e => by rw [e] at hlt; simp at hlt)
      simp only [Value.slice.injEq] at e
      obtain ⟨rfl, -, rfl⟩ := e
      obtain ⟨g, o, rfl, hel⟩ := HH.out (fun e => by rw [e] at hx; simp at hx)
      obtain ⟨an3, cn3, aa3, ca3, he, -⟩ := hel j x hx
      obtain ⟨M, h1, h2, h3, h4⟩ := hres
      have hg0 : Grew w0 wr := HG01.out.trans h3 (fun c hc e => by have := (HOWN.out _ e).1; omega)
      have HN0 := hid (hg0.cell (hnel j s hs) (fun f => f))
      have e3 := HEX.out wr h3 3 _ HBE3.out
      have c0 := hg0.cell he.c0 (fun f => f)
      have HC := hid (And.intro (hg0.cell he.c0 (fun f => f)) (And.intro (hg0.cell he.c1 (fun f => f)) (And.intro (hg0.cell he.c2 (fun f => f)) (hg0.cell he.c3 (fun f => f)))))
      have hjl : (j : Int) < (l.length : Int) := by omega
      have HTK := hid (zip_take_succ hs hx)
      have HE2 := hid e2
      have HE3 := hid e3
      have HNX := hid (he.nm.grew hg0)
      have HRX := hid (he.row.grew hg0)
      have HFM := hid (And.intro h2 h4)
      have HLM := hid h1
      have HBW := hid (show B ≤ wr.heap.size by have := h3.size; have := HG1.out.size; omega)
      have HML := hid (show (L ++ M).length ≤ 900000 by
        have k1 := lamsL_len l
        have k2 : M.length ≤ (lamH 9 ns l).length := by
          rw [← List.length_map (f := LmD.fn), h2, lamH_nine]
          exact List.Sublist.length_le (List.Sublist.filter _ (List.take_sublist _ _))
        have k3 := lamH_cnt 9 ns l
        have := HSZ.out
        rw [List.length_append]; omega)
      have HGB := hid (show gn < B ∧ g < B from ⟨by have := World.block_lt_of_cell? w0 _ (hnel j s hs); simp at this; omega, by have := World.block_lt_of_cell? w0 _ he.c0; simp at this; omega⟩)
      have HWB := hid (show ∀ b, OW (.slice a2 m2 c2) (.slice a3 m3 c3) b → B ≤ b ∧ b ≠ w.heap.size from fun b e => ⟨e.elim (fun q => (h1.rn.lt q).1) (fun q => (h1.rx.lt q).1), fun e2 => by
        rcases h4 b e with q | q
        · have := (HOWN.out b q).2; omega
        · have := HG1.out.size
          have h5 := lt_of_get HBE.out
          omega⟩)
      clear hel he hx hs h1 h2 h3 h4 hg0 hnel
      by_cases h6 : x.kind = 6
      · rw [h6] at c0
        have HTQ := hid (show ((ns.zip l).take (j + 1)).filter (fun p => decide (p.2.kind = 6)) = ((ns.zip l).take j).filter (fun p => decide (p.2.kind = 6)) ++ [(s, x)] by rw [HTK.out, List.filter_append]; simp [h6])
        clear h6
        go_upto_region 5 with (fail)
        clear c0 e0 e2 e3
        refine Rg.wp_region_factsJ 16 (fun listed a w => (Ch (QD 9 1 LmD.nc B wr.heap.size (.slice a2 m2 c2) (L ++ M) (⟨s, x, an3, cn3, aa3, ca3⟩ : LmD)) 65 [6, 7] [35, 36]) listed a w ∧ (Ch (QD 28 4 LmD.xc B wr.heap.size (.slice a3 m3 c3) (L ++ M) (⟨s, x, an3, cn3, aa3, ca3⟩ : LmD)) 65 [14, 15] [43, 44]) listed a w) (Fr (OW (.slice a2 m2 c2) (.slice a3 m3 c3))) [(29, Rg.Ex (.slice a2 m2 c2)), (30, Rg.Ex (.pointer (some ⟨w.heap.size, 2, none⟩))), (31, Rg.Ex (.slice (some ⟨gn, on, none⟩) ns.length cn)), (32, Rg.Ex (.int .i64 (j : Int))), (33, Rg.Ex (.pointer (some ⟨gn, on + j, none⟩))), (34, Rg.Ex (St s)), (35, FAny), (36, FAny), (37, Rg.Ex (.slice a3 m3 c3)), (38, Rg.Ex (.pointer (some ⟨w.heap.size, 3, none⟩))), (39, Rg.Ex (.slice (some ⟨g, o, none⟩) l.length cap)), (40, Rg.Ex (.int .i64 (j : Int))), (41, Rg.Ex (.pointer (some ⟨g, o + j * 4, none⟩))), (42, Rg.Ex (.agg #[Kv x.kind, St x.text, .slice an3 x.names.length cn3, .slice aa3 x.parts.length ca3])), (43, FAny), (44, FAny)] (by kernel_rfl) (by kernel_rfl) (by rfl) (by rfl)
          (fun a => Fr.refl _ a) (fun a b c h k => h.trans k (fun _ _ f => f)) (Fr.refl _ _).drew
          (Rg.Stays.all ⟨Rg.Ex.stays _, Rg.Ex.stays _, Rg.Ex.stays _, Rg.Ex.stays _, Rg.Ex.stays _, Rg.Ex.stays _, (fun _ _ _ _ _ => trivial), (fun _ _ _ _ _ => trivial), Rg.Ex.stays _, Rg.Ex.stays _, Rg.Ex.stays _, Rg.Ex.stays _, Rg.Ex.stays _, Rg.Ex.stays _, (fun _ _ _ _ _ => trivial), (fun _ _ _ _ _ => trivial), trivial⟩) ?_ ?_ ?_
        · go_light
          refine Rg.OpGoalsJ.cons ⟨rfl, ?_⟩ (Rg.OpGoalsJ.cons ⟨rfl, ?_⟩ (Rg.OpGoalsJ.cons ⟨rfl, ?_⟩ (Rg.OpGoalsJ.cons ⟨rfl, ?_⟩ (Rg.OpGoalsJ.cons ⟨rfl, ?_⟩ (Rg.OpGoalsJ.cons ⟨rfl, ?_⟩ (Rg.OpGoalsJ.cons ⟨rfl, ?_⟩ (Rg.OpGoalsJ.cons ⟨rfl, ?_⟩ (Rg.OpGoalsJ.cons ⟨rfl, ?_⟩ (Rg.OpGoalsJ.cons ⟨rfl, ?_⟩ (Rg.OpGoalsJ.cons ⟨rfl, ?_⟩ (Rg.OpGoalsJ.cons ⟨rfl, ?_⟩ (Rg.OpGoalsJ.cons ⟨rfl, ?_⟩ (Rg.OpGoalsJ.cons ⟨rfl, ?_⟩ (Rg.OpGoalsJ.cons ⟨rfl, ?_⟩ (Rg.OpGoalsJ.cons ⟨rfl, ?_⟩ Rg.OpGoalsJ.none)))))))))))))))
          all_goals (intro listed a' w' hmc hS hI hR; simp [Rg.Rd, Op.operands, Call.operands, Rg.Fk, Rg.Ex] at hR)
          all_goals (have hIo := fun i d v (h1 : i ∉ ([6, 7] : List Nat)) (h2 : d ∉ ([35, 36] : List Nat)) (h3 : i ∉ ([14, 15] : List Nat)) (h4 : d ∉ ([43, 44] : List Nat)) => And.intro (hI.1.pure (i := i) (d := d) v h1 h2) (hI.2.pure (i := i) (d := d) v h3 h4))
          all_goals (have n0' := hS.cell HN0.out (fun e => by have e2 : OW (.slice a2 m2 c2) (.slice a3 m3 c3) gn := e; have := HWB.out _ e2; have := HGB.out; omega))
          all_goals (have e2' := hS.cell HE2.out (fun e => by have e2 : OW (.slice a2 m2 c2) (.slice a3 m3 c3) w.heap.size := e; have := HWB.out _ e2; have := HGB.out; omega))
          all_goals (have e3' := hS.cell HE3.out (fun e => by have e2 : OW (.slice a2 m2 c2) (.slice a3 m3 c3) w.heap.size := e; have := HWB.out _ e2; have := HGB.out; omega))
          all_goals (have c0' := hS.cell HC.out.1 (fun e => by have e2 : OW (.slice a2 m2 c2) (.slice a3 m3 c3) g := e; have := HWB.out _ e2; have := HGB.out; omega))
          all_goals (have c1' := hS.cell HC.out.2.1 (fun e => by have e2 : OW (.slice a2 m2 c2) (.slice a3 m3 c3) g := e; have := HWB.out _ e2; have := HGB.out; omega))
          all_goals (have c2' := hS.cell HC.out.2.2.1 (fun e => by have e2 : OW (.slice a2 m2 c2) (.slice a3 m3 c3) g := e; have := HWB.out _ e2; have := HGB.out; omega))
          all_goals (have c3' := hS.cell HC.out.2.2.2 (fun e => by have e2 : OW (.slice a2 m2 c2) (.slice a3 m3 c3) g := e; have := HWB.out _ e2; have := HGB.out; omega))
          all_goals try (simp [Rg.Yields, execOp, Act.eval, hR, n0', e2', e3', c0', c1', c2', c3', hlt, hjl, go_sem, Rg.Fk, Rg.Ex, FAny, Fr.refl]; exact hIo _ _ _ (by decide) (by decide) (by decide) (by decide))
          · obtain ⟨hq, hcome⟩ := hI.1.come (j := 0) (p := 6) (d := 35) rfl rfl hmc.not (fun i q hi _ => absurd hi (Nat.not_lt_zero i)) rfl (by rw [hmc.size]; decide) (by decide) (by decide) (by decide)
            have hoth := fun w2 hst v => hI.2.other (w2 := w2) hst (i := 6) (d := 35) v (by decide) (by decide)
            simp [Rg.Yields, execOp, Act.eval, hR, go_sem, Rg.Fk, Rg.Ex, FAny]
            have ga := (Fr.refl (fun _ => False) w').alloc (.cells (LmD.nc (⟨s, x, an3, cn3, aa3, ca3⟩ : LmD)).toArray 9)
            refine ⟨Grew.any ga, hcome _ _ (QD.build hq), hoth _ (fun j vals h => QD.other h ga (fun _ _ f _ => f)) _⟩
          · have l0 := hmc.own { on := 6, ground := .data } (by simp) rfl
            obtain ⟨hq, hcome⟩ := hI.1.come (j := 1) (p := 7) (d := 36) rfl rfl hmc.not (fun i q hi hq => by rcases (show i = 0 by omega) with rfl <;> (cases hq; first | exact l0)) rfl (by rw [hmc.size]; decide) (by decide) (by decide) (by decide)
            have hoth := fun w2 hst v => hI.2.other (w2 := w2) hst (i := 7) (d := 36) v (by decide) (by decide)
            obtain ⟨v1, w6, hrun, h8, hf8, hty⟩ := QD.app hq ty25 LmD.nlen (LmD.none' _) (by have := HBW.out; have := hS.size; omega) hS.size HML.out 25
            have hst := fun j vals (h : QD 28 4 LmD.xc B wr.heap.size (.slice a3 m3 c3) (L ++ M) (⟨s, x, an3, cn3, aa3, ca3⟩ : LmD) j w' vals) => QD.other (j := j) (vals := vals) h hf8 (fun g c e q => by obtain ⟨c', hc'⟩ := hty g e; rw [hc'] at q; simp at q)
            refine Yields_app rfl ?_ rfl hrun ⟨fun d hd => by cases hd; simp [Rg.Fk, FAny], hf8.mono (fun _ _ e => .inl e), hcome _ _ h8, hoth _ hst _⟩
            show a'.tmps.getD 29 undef = _
            rw [Array.getD_eq_getD_getElem?]; first | exact hR.1 | exact hR
          · obtain ⟨hq, hcome⟩ := hI.2.come (j := 0) (p := 14) (d := 43) rfl rfl hmc.not (fun i q hi _ => absurd hi (Nat.not_lt_zero i)) rfl (by rw [hmc.size]; decide) (by decide) (by decide) (by decide)
            have hoth := fun w2 hst v => hI.1.other (w2 := w2) hst (i := 14) (d := 43) v (by decide) (by decide)
            simp [Rg.Yields, execOp, Act.eval, hR, go_sem, Rg.Fk, Rg.Ex, FAny]
            have ga := (Fr.refl (fun _ => False) w').alloc (.cells (LmD.xc (⟨s, x, an3, cn3, aa3, ca3⟩ : LmD)).toArray 28)
            refine ⟨Grew.any ga, hoth _ (fun j vals h => QD.other h ga (fun _ _ f _ => f)) _, hcome _ _ (QD.build hq)⟩
          · have l0 := hmc.own { on := 14, ground := .data } (by simp) rfl
            obtain ⟨hq, hcome⟩ := hI.2.come (j := 1) (p := 15) (d := 44) rfl rfl hmc.not (fun i q hi hq => by rcases (show i = 0 by omega) with rfl <;> (cases hq; first | exact l0)) rfl (by rw [hmc.size]; decide) (by decide) (by decide) (by decide)
            have hoth := fun w2 hst v => hI.1.other (w2 := w2) hst (i := 15) (d := 44) v (by decide) (by decide)
            obtain ⟨v1, w6, hrun, h8, hf8, hty⟩ := QD.app hq ty26 LmD.xlen (LmD.xone _) (by have := HBW.out; have := hS.size; omega) hS.size HML.out 26
            have hst := fun j vals (h : QD 9 1 LmD.nc B wr.heap.size (.slice a2 m2 c2) (L ++ M) (⟨s, x, an3, cn3, aa3, ca3⟩ : LmD) j w' vals) => QD.other (j := j) (vals := vals) h hf8 (fun g c e q => by obtain ⟨c', hc'⟩ := hty g e; rw [hc'] at q; simp at q)
            refine Yields_app rfl ?_ rfl hrun ⟨fun d hd => by cases hd; simp [Rg.Fk, FAny], hf8.mono (fun _ _ e => .inr e), hoth _ hst _, hcome _ _ h8⟩
            show a'.tmps.getD 37 undef = _
            rw [Array.getD_eq_getD_getElem?]; first | exact hR.1 | exact hR
        · exact ⟨Ch.none (by rfl) _ (show RowOf 9 1 LmD.nc B wr.drew _ _ from HLM.out.rn.grew ((Fr.refl _ _).drew)), Ch.none (by rfl) _ (show RowOf 28 4 LmD.xc B wr.drew _ _ from HLM.out.rx.grew ((Fr.refl _ _).drew))⟩
        · intro w7 hS7
          rintro _ rfl _ rfl _ rfl _ rfl _ rfl _ rfl v35 _ v36 _ _ rfl _ rfl _ rfl _ rfl _ rfl _ rfl v43 _ v44 _ hI
          have hsz := hI.1.sz
          have hallA := hI.1.all rfl (by decide)
          simp only [List.map_cons, List.map_nil, List.length_cons, List.length_nil] at hallA
          rw [Rg.put_getD_ne _ (by decide), Rg.put_getD_ne _ (by decide), Rg.put_getD_ne _ (by decide), Rg.put_getD_ne _ (by decide), Rg.put_getD_ne _ (by decide), Rg.put_getD_ne _ (by decide), Rg.put_getD_ne _ (by decide), Rg.put_getD_ne _ (by decide), Rg.put_getD_ne _ (by decide), Rg.put_getD_eq _ (by simp only [put_size'] at hsz ⊢; rw [hsz]; decide), Rg.put_getD_ne _ (by decide), Rg.put_getD_ne _ (by decide), Rg.put_getD_ne _ (by decide), Rg.put_getD_ne _ (by decide), Rg.put_getD_ne _ (by decide), Rg.put_getD_ne _ (by decide), Rg.put_getD_ne _ (by decide), Rg.put_getD_ne _ (by decide), Rg.put_getD_eq _ (by simp only [put_size'] at hsz ⊢; rw [hsz]; decide)] at hallA
          have hallB := hI.2.all rfl (by decide)
          simp only [List.map_cons, List.map_nil, List.length_cons, List.length_nil] at hallB
          rw [Rg.put_getD_ne _ (by decide), Rg.put_getD_eq _ (by simp only [put_size'] at hsz ⊢; rw [hsz]; decide), Rg.put_getD_eq _ (by simp only [put_size'] at hsz ⊢; rw [hsz]; decide)] at hallB
          clear hI hsz
          obtain ⟨hA1, ⟨a8, m8, c8, rfl⟩, hA3⟩ := hallA
          obtain ⟨hB1, ⟨a9, m9, c9, rfl⟩, hB3⟩ := hallB
          have HR9 := hid (show LmRes (fun b => w0.heap.size ≤ b) B W1 (.slice aN mN cN) (.slice aL mL cL) L (lamP 9 ns l (j + 1)) (.slice a8 m8 c8) (.slice a9 m9 c9) w7 from by
            rw [lamP_nine, HTQ.out]
            refine LmRes.trans (w1 := wr) (v1 := .slice a2 m2 c2) (u1 := .slice a3 m3 c3) HF.out HFM.out.1 HFM.out.2 ⟨[_], HLM.out.both hS7 hA1 hB1 ⟨HNX.out, HRX.out⟩ (fun b hb => by omega), rfl, hS7, fun g hg => ?_⟩
            rcases hg with q | q
            · exact (hA3 g q).imp (fun z => .inl z) id
            · exact (hB3 g q).imp (fun z => .inr z) id)
          clear hA1 hA3 hB1 hB3 hS7
          go_wp2
          go_roundw
          case rel => first | exact ⟨.slice a8 m8 c8, .slice a9 m9 c9, .int .i64 ((j : Int) + 1), ⟨j + 1, by omega, (fun e => absurd rfl e), by go_num, a8, m8, c8, rfl, a9, m9, c9, rfl, HR9.out⟩, rfl, rfl, rfl⟩ | exact ⟨j + 1, a8, m8, c8, a9, m9, c9, by omega, (fun e => absurd rfl e), by go_num, rfl, rfl, HR9.out⟩ | exact ⟨j + 1, by omega, (fun e => absurd rfl e), by go_num, a8, m8, c8, rfl, a9, m9, c9, rfl, HR9.out⟩ | exact ⟨j + 1, by omega, (fun e => absurd rfl e), a8, m8, c8, a9, m9, c9, by go_num, rfl, rfl, HR9.out⟩
          case measure => simp [intOf]; omega
      · have HR9 := hid (show LmRes (fun b => w0.heap.size ≤ b) B W1 (.slice aN mN cN) (.slice aL mL cL) L (lamP 9 ns l (j + 1)) (.slice a2 m2 c2) (.slice a3 m3 c3) wr by
          rw [lamP_nine, HTK.out, List.filter_append]
          have h := HRS.out
          rw [lamP_nine] at h
          simpa [h6] using h)
        have h6b : (x.kind == 6) = false := by simpa using h6
        clear h6
        go_wp2
        go_roundw
        case rel => first | exact ⟨j + 1, a2, m2, c2, a3, m3, c3, by omega, (fun e => absurd rfl e), by go_num, rfl, rfl, HR9.out⟩ | exact ⟨j + 1, by omega, (fun e => absurd rfl e), by go_num, a2, m2, c2, rfl, a3, m3, c3, rfl, HR9.out⟩ | exact ⟨j + 1, by omega, (fun e => absurd rfl e), a2, m2, c2, a3, m3, c3, by go_num, rfl, rfl, HR9.out⟩
        case measure => simp [intOf]; omega
    · have HRES := hid (show LmRes (fun b => w0.heap.size ≤ b) B W1 (.slice aN mN cN) (.slice aL mL cL) L (lamH k ns l) (.slice a2 m2 c2) (.slice a3 m3 c3) wr from by
        by_cases k9 : k = 9
        · subst k9
          have hll := HLL.out rfl
          have hj' : j = ns.length := by omega
          subst hj'
          rw [lamP_nine, List.take_of_length_le (by rw [List.length_zip]; omega)] at hres
          rw [lamH_nine]; exact hres
        · unfold lamP at hres
          rw [if_neg k9] at hres
          rw [lamH_other k9]; exact hres)
      have HJ := hid hj
      have k1 : ¬ (k = 9 ∧ (j : Int) < (ns.length : Int)) := fun q => hgo ⟨q.1, by omega⟩
      clear hres hj
      have HK1 := hid k1
      clear k1
      have hend : (k == 9) = false ∨ ¬ (j : Int) < (ns.length : Int) := by
        by_cases k9 : k = 9
        · exact .inr (fun q => hgo ⟨k9, by omega⟩)
        · exact .inl (by simpa using k9)
      clear hgo
      have HFD : Hid (Fr (OW (.slice aN mN cN) (.slice aL mL cL)) W1 wr) := HF
      rcases Classical.em ((j : Int) < (ns.length : Int)) with hjn | hjn
      · have hk9 : (k == 9) = false := hend.resolve_right (fun q => q hjn)
        clear hend
        go_upto_region 6 with (fail)
        clear e0 e2 hk9
        obtain ⟨W5, rfl⟩ : ∃ q : World, q = wr := ⟨_, rfl⟩
        go_wp2
        go_loopw [1, 2, 9] (fun q lv iv wr => ∃ (j : Nat) (a2 : Option Addr) (m2 c2 : Nat) (a3 : Option Addr) (m3 c3 : Nat), j ≤ l.length ∧ iv = .int .i64 j ∧ q = .slice a2 m2 c2 ∧ lv = .slice a3 m3 c3 ∧ LmRes (fun b => w0.heap.size ≤ b) B W1 (.slice aN mN cN) (.slice aL mL cL) L (lamH k ns l ++ lamsL (l.take j)) (.slice a2 m2 c2) (.slice a3 m3 c3) wr) (fun _ _ iv _ => l.length - (intOf iv).toNat)
        case atStart => exact ⟨0, a2, m2, c2, a3, m3, c3, Nat.zero_le _, rfl, rfl, rfl, by simpa [lamsL] using HRES.out⟩
        case round =>
          obtain ⟨j, a2, m2, c2, a3, m3, c3, hj, rfl, rfl, rfl, hres⟩ := hrel
          have HRS := hid hres
          obtain ⟨M, h1, h2, h3, h4⟩ := hres
          have e3 := HEX.out wr h3 3 _ HBE3.out
          by_cases hlt : j < l.length
          · obtain ⟨x, hx⟩ := at_of_lt hlt
            obtain ⟨g, o, rfl, hel⟩ := HH.out (fun e => by rw [e] at hlt; simp at hlt)
            obtain ⟨an3, cn3, aa3, ca3, he, hc⟩ := hel j x hx
            have hg0 : Grew w0 wr := HG01.out.trans h3 (fun c hc e => by have := (HOWN.out _ e).1; omega)
            have c0 := hg0.cell he.c0 (fun f => f)
            have c1 := hg0.cell he.c1 (fun f => f)
            have c2' := hg0.cell he.c2 (fun f => f)
            have c3' := hg0.cell he.c3 (fun f => f)
            have hlb := lam_bound k ns hx
            have hML : M.length = (lamH k ns l).length + (lamsL (l.take j)).length := by rw [← List.length_append, ← h2, List.length_map]
            have hcall := hc wr B (.slice a2 m2 c2) (.slice a3 m3 c3) (L ++ M) hg0 hB0 (by have := h3.size; have := HG1.out.size; omega) h1 (by rw [List.length_append]; have := HSZ.out; omega)
            have HTK := hid (lamsL_take hx)
            have HTR := hid (fun (fs : List (Str × X)) (v2 u2 : Value) (w2 : World) (q : LmRes (fun b => w0.heap.size ≤ b) B wr (.slice a2 m2 c2) (.slice a3 m3 c3) (L ++ M) fs v2 u2 w2) => LmRes.trans h3 h2 h4 q)
            clear hel he hc hx h1 h2 h3 h4 hg0 hlb hML
            go_wp2_with (go_at_call 23; (with_reducible refine hcall.mono ?_); rintro e w9 ⟨a8, m8, c8, a9, m9, c9, rfl, hres9⟩; clear hcall c0 c1 c2' c3' e3; have HR9 := hid (HTR.out _ _ _ _ hres9); clear hres9)
            go_roundw
            case rel => first | exact ⟨.slice a8 m8 c8, .slice a9 m9 c9, .int .i64 ((j : Int) + 1), ⟨j + 1, by omega, by go_num, a8, m8, c8, rfl, a9, m9, c9, rfl, by rw [HTK.out, ← List.append_assoc]; exact HR9.out⟩, rfl, rfl, rfl⟩ | exact ⟨j + 1, a8, m8, c8, a9, m9, c9, by omega, by go_num, rfl, rfl, by rw [HTK.out, ← List.append_assoc]; exact HR9.out⟩ | exact ⟨j + 1, by omega, by go_num, a8, m8, c8, rfl, a9, m9, c9, rfl, by rw [HTK.out, ← List.append_assoc]; exact HR9.out⟩
            case measure => simp [intOf]; omega
          · obtain rfl : j = l.length := by omega
            rw [List.take_length] at HRS
            clear h1 h2 h3 h4
            go_wp2
            refine bodyPost_ret (v := .tuple #[.slice a2 m2 c2, .slice a3 m3 c3]) (by simp [results, Try.results23, go_sem]) rfl ⟨_, _, _, _, _, _, rfl, ?_⟩
            obtain ⟨M, h1, h2, h3, h4⟩ := HRS.out
            exact ⟨M, h1, h2, (Grew.any HG1.out).trans h3 (fun _ _ e => e), fun g hg => (h4 g hg).imp id (fun q => by have := HG1.out.size; omega)⟩
      · clear hend
        go_upto_region 6 with (fail)
        clear e0 e2
        obtain ⟨W5, rfl⟩ : ∃ q : World, q = wr := ⟨_, rfl⟩
        go_wp2
        go_loopw [1, 2, 9] (fun q lv iv wr => ∃ (j : Nat) (a2 : Option Addr) (m2 c2 : Nat) (a3 : Option Addr) (m3 c3 : Nat), j ≤ l.length ∧ iv = .int .i64 j ∧ q = .slice a2 m2 c2 ∧ lv = .slice a3 m3 c3 ∧ LmRes (fun b => w0.heap.size ≤ b) B W1 (.slice aN mN cN) (.slice aL mL cL) L (lamH k ns l ++ lamsL (l.take j)) (.slice a2 m2 c2) (.slice a3 m3 c3) wr) (fun _ _ iv _ => l.length - (intOf iv).toNat)
        case atStart => exact ⟨0, a2, m2, c2, a3, m3, c3, Nat.zero_le _, rfl, rfl, rfl, by simpa [lamsL] using HRES.out⟩
        case round =>
          obtain ⟨j, a2, m2, c2, a3, m3, c3, hj, rfl, rfl, rfl, hres⟩ := hrel
          have HRS := hid hres
          obtain ⟨M, h1, h2, h3, h4⟩ := hres
          have e3 := HEX.out wr h3 3 _ HBE3.out
          by_cases hlt : j < l.length
          · obtain ⟨x, hx⟩ := at_of_lt hlt
            obtain ⟨g, o, rfl, hel⟩ := HH.out (fun e => by rw [e] at hlt; simp at hlt)
            obtain ⟨an3, cn3, aa3, ca3, he, hc⟩ := hel j x hx
            have hg0 : Grew w0 wr := HG01.out.trans h3 (fun c hc e => by have := (HOWN.out _ e).1; omega)
            have c0 := hg0.cell he.c0 (fun f => f)
            have c1 := hg0.cell he.c1 (fun f => f)
            have c2' := hg0.cell he.c2 (fun f => f)
            have c3' := hg0.cell he.c3 (fun f => f)
            have hlb := lam_bound k ns hx
            have hML : M.length = (lamH k ns l).length + (lamsL (l.take j)).length := by rw [← List.length_append, ← h2, List.length_map]
            have hcall := hc wr B (.slice a2 m2 c2) (.slice a3 m3 c3) (L ++ M) hg0 hB0 (by have := h3.size; have := HG1.out.size; omega) h1 (by rw [List.length_append]; have := HSZ.out; omega)
            have HTK := hid (lamsL_take hx)
            have HTR := hid (fun (fs : List (Str × X)) (v2 u2 : Value) (w2 : World) (q : LmRes (fun b => w0.heap.size ≤ b) B wr (.slice a2 m2 c2) (.slice a3 m3 c3) (L ++ M) fs v2 u2 w2) => LmRes.trans h3 h2 h4 q)
            clear hel he hc hx h1 h2 h3 h4 hg0 hlb hML
            go_wp2_with (go_at_call 23; (with_reducible refine hcall.mono ?_); rintro e w9 ⟨a8, m8, c8, a9, m9, c9, rfl, hres9⟩; clear hcall c0 c1 c2' c3' e3; have HR9 := hid (HTR.out _ _ _ _ hres9); clear hres9)
            go_roundw
            case rel => first | exact ⟨.slice a8 m8 c8, .slice a9 m9 c9, .int .i64 ((j : Int) + 1), ⟨j + 1, by omega, by go_num, a8, m8, c8, rfl, a9, m9, c9, rfl, by rw [HTK.out, ← List.append_assoc]; exact HR9.out⟩, rfl, rfl, rfl⟩ | exact ⟨j + 1, a8, m8, c8, a9, m9, c9, by omega, by go_num, rfl, rfl, by rw [HTK.out, ← List.append_assoc]; exact HR9.out⟩ | exact ⟨j + 1, by omega, by go_num, a8, m8, c8, rfl, a9, m9, c9, rfl, by rw [HTK.out, ← List.append_assoc]; exact HR9.out⟩
            case measure => simp [intOf]; omega
          · obtain rfl : j = l.length := by omega
            rw [List.take_length] at HRS
            clear h1 h2 h3 h4
            go_wp2
            refine bodyPost_ret (v := .tuple #[.slice a2 m2 c2, .slice a3 m3 c3]) (by simp [results, Try.results23, go_sem]) rfl ⟨_, _, _, _, _, _, rfl, ?_⟩
            obtain ⟨M, h1, h2, h3, h4⟩ := HRS.out
            exact ⟨M, h1, h2, (Grew.any HG1.out).trans h3 (fun _ _ e => e), fun g hg => (h4 g hg).imp id (fun q => by have := HG1.out.size; omega)⟩

theorem lam_row {w0 : World} {v : Value} {l : List X} (h : Row w0 (fun b => w0.heap.size ≤ b) v l) : (∀ x ∈ l, So x) → ∀ (w : World) (B : Nat) (vN vL : Value) (L : List LmD), Grew w0 w → w0.heap.size ≤ B → B ≤ w.heap.size → LmL (fun b => w0.heap.size ≤ b) B w vN vL L → ∀ (k : Int) (t : Str) (vn : Value) (ns : List Str),
    L.length + (1 + sizes l) ≤ 900000 → Nm w0 (fun b => w0.heap.size ≤ b) vn ns → (k = 9 → l.length = ns.length + 1) →
    Calls Try.prog 23 #[.agg #[Kv k, St t, vn, v], vN, vL] w (LmPost (fun b => w0.heap.size ≤ b) B w vN vL L (X.mk k t ns l).lams) := by
  refine Row.ind (P := fun v l => (∀ x ∈ l, So x) → ∀ (w : World) (B : Nat) (vN vL : Value) (L : List LmD), Grew w0 w → w0.heap.size ≤ B → B ≤ w.heap.size → LmL (fun b => w0.heap.size ≤ b) B w vN vL L → ∀ (k : Int) (t : Str) (vn : Value) (ns : List Str),
    L.length + (1 + sizes l) ≤ 900000 → Nm w0 (fun b => w0.heap.size ≤ b) vn ns → (k = 9 → l.length = ns.length + 1) →
    Calls Try.prog 23 #[.agg #[Kv k, St t, vn, v], vN, vL] w (LmPost (fun b => w0.heap.size ≤ b) B w vN vL L (X.mk k t ns l).lams)) ?_ ?_ h
  · intro ad cap _ w B vN vL L hw hB0 hB hL k t vn ns hsz hn h9
    obtain ⟨aN, cN, rfl, -⟩ := hL.rn.shape
    obtain ⟨aL, cL, rfl, -⟩ := hL.rx.shape
    exact lam_core (l := []) (fun e => absurd rfl e) w B aN _ cN aL _ cL L hw hB0 hB hL k t vn ns hsz hn h9
  · intro l g o cap _ _ _ H hs w B vN vL L hw hB0 hB hL k t vn ns hsz hn h9
    obtain ⟨aN, cN, rfl, -⟩ := hL.rn.shape
    obtain ⟨aL, cL, rfl, -⟩ := hL.rx.shape
    refine lam_core (fun _ => ⟨g, o, rfl, fun i x hx => ?_⟩) w B aN _ cN aL _ cL L hw hB0 hB hL k t vn ns hsz hn h9
    obtain ⟨an, cn, aa, ca, he, hc⟩ := H i x hx
    refine ⟨an, cn, aa, ca, he, fun w2 B2 v2 u2 L2 hg hB2 hB3 hL2 hsz2 => ?_⟩
    have hso := hs x (List.mem_of_getElem? hx)
    cases hso with
    | mk k t ns a h7 h8 h9 ha h => exact hc h w2 B2 v2 u2 L2 hg hB2 hB3 hL2 k t _ ns (show L2.length + (1 + sizes a) ≤ 900000 by simpa [X.size] using hsz2) he.nm h9
/-- Lambdas -/
theorem lam_any {w0 : World} {e : Value} {x : X} (h : Rd w0 (fun _ => False) e x) (hx : So x) (hsz : x.size ≤ 900000) (w : World) (hw : Grew w0 w) : Calls Try.prog 23 #[e, .slice none 0 0, .slice none 0 0] w (LmPost (fun b => w0.heap.size ≤ b) w.heap.size w (.slice none 0 0) (.slice none 0 0) [] x.lams) := by
  obtain ⟨vn, va, rfl, hn, hr⟩ := h.mono (E := fun b => w0.heap.size ≤ b) (fun b hb q => by omega)
  cases hx with
  | mk k t ns a h7 h8 h9 ha hso => exact lam_row hr hso w w.heap.size _ _ [] hw hw.size (Nat.le_refl _) (LmL.nil _ _ _) k t vn ns (show 0 + (1 + sizes a) ≤ 900000 by simpa [X.size] using hsz) hn h9
end Go.Proofs.Ytddcfnjmppijjaa

/-! thunkref8.Needs. -/
namespace Go.Proofs.Ytddcfnjmppijjaa
open Go.RowKit

theorem ty31 : ElTy 31 44 2 := .of (bytes := 40) (z := .agg #[.string ⟨#[]⟩, .slice none 0 0]) (by kernel_rfl) (by kernel_rfl) (by omega) rfl (by omega)
def tru (_ : Unit) : List Value := [.bool true]
/-- one more truth behind a row of one's own -/
theorem Rb.app {B : Nat} {w : World} {v : Value} {k : Nat} (h : Rb B w v (List.replicate k true)) (hB : B ≤ w.heap.size) (hk : k ≤ 900000) (ty : TypeId) :
    ∃ v' w', (Builtin.append_ #[40, 40] ty #[v, .slice (some ⟨w.heap.size, 0, none⟩) 1 1]).run Try.prog (w.alloc (.cells #[.bool true] 4)) = .ok v' w' ∧ Rb B w' v' (List.replicate (k + 1) true) ∧ Fr (fun b => v.ownBlock = some b) w w' ∧ ∃ a c, v' = .slice a (k + 1) c := by
  obtain ⟨i, z, hT, hi, hz, hs, hb, hzc, hkk⟩ := ty40.ex
  have ga : Grew w (w.alloc (.cells #[.bool true] 4)) := (Fr.refl _ _).alloc _
  have h2 := h.kept ga (fun _ _ f => f)
  unfold Rb at h2
  rw [List.length_replicate] at h2
  obtain ⟨v', w', hr, ho, hfr, hg⟩ := app_gen hT hi hz hs rfl hzc hkk h2 (by simp; omega) ⟨w.heap.size, 0, none⟩ 1 1 [.bool true] (by simp) (fun j u hj => by
    rw [addr_at, Nat.zero_add, cell_of_get (heap_alloc_new _ _)]
    simpa using hj) (fun u hu => by simp at hu; subst hu; rfl) (by omega) hb ty
  have ho' : Rb B w' v' (List.replicate (k + 1) true) := by
    unfold Rb
    rw [List.length_replicate, List.replicate_succ', List.map_append]
    exact ho
  obtain ⟨a, c, e1, -⟩ := ho'.shape
  rw [List.length_replicate] at e1
  exact ⟨v', w', hr, ho', ga.any.trans hfr (fun _ _ e => e), a, c, e1⟩

/-- one need more -/
theorem NS.app {e T B : Nat} {w : World} {v : Value} {L : List NdD} {nl : Ned} (h : NS e B w v L nl) (ht : ElTy T e 2) (hB : B ≤ w.heap.size) (hl : L.length ≤ 900000) {d : NdD} {bs : List Bool} (hbs : Rb B w d.v bs) (hn : bs.length = d.n)
    (hsep : ∀ g, d.v.ownBlock = some g → v.ownBlock ≠ some g ∧ ∀ d' ∈ L, d'.v.ownBlock ≠ some g) (ty : TypeId) :
    ∃ v' w', (Builtin.append_ #[T, T] ty #[v, .slice (some ⟨w.heap.size, 0, none⟩) 1 1]).run Try.prog (w.alloc (.cells d.cells.toArray e)) = .ok v' w' ∧ NS e B w' v' (L ++ [d]) (nl ++ [(d.s, bs)]) ∧ Fr (fun b => v.ownBlock = some b) w w' ∧ ∃ a m c, v' = .slice a m c := by
  have ga : Grew w (w.alloc (.cells d.cells.toArray e)) := (Fr.refl _ _).alloc _
  obtain ⟨v', w', e1, e2, e3, e4, e5⟩ := (h.row.grew ga).app ht NdD.len (by simp; omega) hl (d := d) (gu := w.heap.size) (heap_alloc_new _ _) d.one ty
  have hf : Fr (fun b => v.ownBlock = some b) w w' := (Grew.any ga).trans e3 (fun _ _ e => e)
  have e4' : ∀ g, v'.ownBlock = some g → v.ownBlock = some g ∨ w.heap.size ≤ g := fun g hg => (e4 g hg).imp id (fun q => by simp at q; omega)
  have hat : ∀ i d', (L ++ [d])[i]? = some d' → (i < L.length ∧ L[i]? = some d') ∨ (i = L.length ∧ d' = d) := fun i d' hd' => by
    rcases Nat.lt_or_ge i L.length with q | q
    · rw [List.getElem?_append_left q] at hd'; exact .inl ⟨q, hd'⟩
    · rw [List.getElem?_append_right q] at hd'
      have := (List.getElem?_eq_some_iff.1 hd').1
      simp at this
      have hi : i = L.length := by omega
      subst hi
      simp at hd'
      exact .inr ⟨rfl, hd'.symm⟩
  refine ⟨v', w', e1, ⟨e2, by simp [h.len], fun i d' hd' => ?_, fun i d' hd' g hg e => ?_, fun i j d1 d2 h1 h2 g hg1 hg2 => ?_⟩, hf, e5⟩
  · rcases hat i d' hd' with ⟨q, hd⟩ | ⟨rfl, rfl⟩
    · obtain ⟨bs', k1, k2, k3⟩ := h.el i d' hd
      exact ⟨bs', by rw [List.getElem?_append_left (by rw [h.len]; exact q)]; exact k1, k2, k3.kept hf (fun g hg e => h.row' i d' hd g hg e)⟩
    · exact ⟨bs, by rw [List.getElem?_append_right (by rw [h.len]; omega), h.len, Nat.sub_self]; rfl, hn, hbs.kept hf (fun g hg e => (hsep g hg).1 e)⟩
  · rcases hat i d' hd' with ⟨q, hd⟩ | ⟨rfl, rfl⟩
    · rcases e4' g e with z | z
      · exact h.row' i d' hd g hg z
      · obtain ⟨bs', -, -, k3⟩ := h.el i d' hd
        have := (k3.lt hg).2; omega
    · rcases e4' g e with z | z
      · exact (hsep g hg).1 z
      · have := (hbs.lt hg).2; omega
  · rcases hat i d1 h1 with ⟨q, hd⟩ | ⟨rfl, rfl⟩
    · rcases hat j d2 h2 with ⟨q2, hd2⟩ | ⟨rfl, rfl⟩
      · exact h.sep i j d1 d2 hd hd2 g hg1 hg2
      · exact absurd hg1 ((hsep g hg2).2 d1 (List.mem_of_getElem? hd))
    · rcases hat j d2 h2 with ⟨q2, hd2⟩ | ⟨rfl, rfl⟩
      · exact absurd hg2 ((hsep g hg1).2 d2 (List.mem_of_getElem? hd2))
      · rfl

/-- where a truth stands no text does -/
theorem nm_truth {w : World} {D : Nat → Prop} {v u : Value} {l : List Str} {g k : Nat} {b : Bool} (h : Nm w D v l) (hb : w.cell? ⟨g, k, none⟩ = some (.bool b)) : Nm (w.setCell ⟨g, k, none⟩ u) D v l := by
  obtain ⟨ad, cap, h1, h2, h3, h4⟩ := h
  refine ⟨ad, cap, h1, h2, h3, ?_⟩
  rcases h4 with h4 | ⟨g', o, h5, h6, h7⟩
  · exact .inl h4
  · refine .inr ⟨g', o, h5, h6, fun i hi => ?_⟩
    have h8 := h7 i hi
    by_cases hg : g' = g
    · subst hg
      have hne : o + i ≠ k := fun e => by rw [e, hb] at h8; cases h8
      rw [← h8]
      exact World.cell?_setCell_other _ _ _ _ (fun e => by injection e with _ e2 _; exact hne e2.symm)
    · have hf : Fr (fun c => c = g) w (w.setCell ⟨g, k, none⟩ u) := (Fr.refl (fun c => c = g) w).setCell (p := ⟨g, k, none⟩) (fun _ => rfl) _
      exact hf.cell h8 hg
theorem RS.truth {w : World} {a : Option Addr} {c : Nat} {A : Bool} {ls : List Str} {d : DS} {g k : Nat} {b : Bool} {u : Value} (h : RS w a c A ls d) (hb : w.cell? ⟨g, k, none⟩ = some (.bool b)) : RS (w.setCell ⟨g, k, none⟩ u) a c A ls d :=
  ⟨nm_truth h.nm hb, h.so, h.nd, h.all, h.no, h.mem⟩
/-- the blocks of the truths -/
def OL (L : List NdD) : Nat → Prop := fun b => ∃ d ∈ L, d.v.ownBlock = some b
theorem size_body {k : Int} {t : Str} {ns : List Str} {a : List X} {n : Nat} (h : (X.mk k t ns a).size ≤ n) : ∀ y ∈ a, y.size ≤ n := fun y hy => by
  obtain ⟨i, hi⟩ := List.mem_iff_getElem?.1 hy
  have := size_le_sizes a i y hi
  simp only [X.size] at h; omega
theorem body_mem {x b : X} {r : List X} (h : x.parts = b :: r) {n : Nat} (hx : x.size ≤ n) : b.size ≤ n := by
  cases x with
  | mk k t ns a => exact size_body hx b (by simp only [X.parts] at h; rw [h]; simp)

set_option maxHeartbeats 16000000 in
set_option maxRecDepth 100000 in
/-- Needs -/
theorem refneeds_any {w : World} {e : Value} {x : X} (h : Rd w (fun _ => False) e x) (hx : Ne x) (hsz : x.size ≤ 400000) : Calls Try.prog 22 #[e] w (NdPost 44 w x) := by
  obtain ⟨vn, va, rfl, hn, hr⟩ := h
  obtain ⟨an, cn, rfl, -⟩ := hn.shape
  obtain ⟨aa, ca, rfl, -⟩ := hr.shape
  obtain ⟨W1, hW1⟩ : ∃ q : World, q = w.alloc (.cells #[Kv x.kind, St x.text, .slice an x.names.length cn, .slice aa x.parts.length ca] 28) := ⟨_, rfl⟩
  have g1 : Grew w W1 := by rw [hW1]; exact (Fr.refl _ _).alloc _
  have hs1 : W1.heap.size = w.heap.size + 1 := by rw [hW1]; simp
  have hbe : W1.heap[w.heap.size]? = some (.cells #[Kv x.kind, St x.text, .slice an x.names.length cn, .slice aa x.parts.length ca] 28 (0, 0)) := by rw [hW1]; exact heap_alloc_new w _
  obtain ⟨c0, c1⟩ := And.intro (cell_of_get hbe 0) (cell_of_get hbe 1)
  obtain ⟨c2, c3⟩ := And.intro (cell_of_get hbe 2) (cell_of_get hbe 3)
  have hcall := lam_any (show Rd w (fun _ => False) _ x from ⟨_, _, rfl, hn, hr⟩) hx.1 (by omega) W1 g1
  have HG1 := hid g1
  have HS1 := hid hs1
  have HX := hid hx
  clear hn hr g1 hbe hs1
  go_enter Try.func22, Try.ntmps22
  go_upto_region 1 with (fail)
  rw [← hW1]
  clear hW1
  go_upto_region 2 with (go_at_call 23; (with_reducible refine hcall.mono ?_); rintro e w2 ⟨aF, mF, cF, aL, mL, cL, rfl, hres⟩; clear hcall c0 c1 c2 c3)
  obtain ⟨F, hfl, hfs, hfr, -⟩ := hres
  rw [List.nil_append] at hfl
  have hg12 : Grew W1 w2 := hfr.mono (fun i _ e => by rcases e with e | e <;> cases e)
  have HFL := hid hfl
  have HFS := hid hfs
  have HG12 := hid hg12
  have hFlen : F.length ≤ 400000 := by
    have h1 := lams_len x
    rw [← hfs, List.length_map] at h1; omega
  have HGW2 := hid (HG1.out.trans hg12 (fun _ _ f => f))
  have HS2 := hid hg12.size
  obtain ⟨_, _, eF, hF1, hF2⟩ := hfl.rn.shape
  simp only [Value.slice.injEq] at eF
  obtain ⟨rfl, rfl, rfl⟩ := eF
  obtain ⟨_, _, eF, hF3, hF4⟩ := hfl.rx.shape
  simp only [Value.slice.injEq] at eF
  obtain ⟨rfl, rfl, rfl⟩ := eF
  replace hF2 : cF ≤ 9223372036854775807 := hF2
  replace hF4 : cL ≤ 9223372036854775807 := hF4
  have HNE := hid (show ∀ d ∈ F, (Ne d.x ∧ d.x.size ≤ 400000) ∧ d.x.kind = 6 from fun d hd => lams_all (P := fun y => Ne y ∧ y.size ≤ 400000) (fun k t ns a h y hy => ⟨Ne.parts k t ns a h.1 y hy, size_body h.2 y hy⟩) x ⟨HX.out, hsz⟩ (d.s, d.x) (by rw [← hfs]; exact List.mem_map.2 ⟨d, hd, rfl⟩))
  clear hfl hfs hfr hg12
  go_wp2
  go_loopw [5, 6] (fun lv iv wr => ∃ (j : Nat) (aN : Option Addr) (mN cN : Nat) (L : List NdD), j ≤ F.length ∧ iv = .int .i64 j ∧ lv = .slice aN mN cN ∧ NS 44 w2.heap.size wr (.slice aN mN cN) L ((F.take j).map (fun d => (d.s, List.replicate d.x.names.length true))) ∧ Grew w2 wr) (fun _ iv _ => F.length - (intOf iv).toNat)
  case atStart => exact ⟨0, none, 0, 0, [], Nat.zero_le _, rfl, rfl, ⟨RowOf.nil _ _ _ _ _, rfl, by simp, by simp, by simp⟩, Fr.refl _ _⟩
  case round =>
    obtain ⟨j, aN, mN, cN, L, hj, rfl, rfl, hns, hgr⟩ := hrel
    have HNS := hid hns
    have HGR := hid hgr
    by_cases hlt : j < F.length
    · obtain ⟨d, hd⟩ := at_of_lt hlt
      obtain ⟨gF, cF2, eF, -, -, -, -, hcell⟩ := HFL.out.rn.at LmD.nlen (fun e => by rw [e] at hlt; simp at hlt)
      simp only [Value.slice.injEq] at eF
      obtain ⟨rfl, -, rfl⟩ := eF
      obtain ⟨gL, cL2, eL, -, -, -, -, hcell2⟩ := HFL.out.rx.at LmD.xlen (fun e => by rw [e] at hlt; simp at hlt)
      simp only [Value.slice.injEq] at eL
      obtain ⟨rfl, -, rfl⟩ := eL
      have q0 := hgr.cell (hcell j d hd 0 (by omega)) (fun f => f)
      have HQ2 := hid (show w2.cell? ⟨gL, j * 4 + 2, none⟩ = some (.slice d.an d.x.names.length d.cn) from hcell2 j d hd 2 (by omega))
      simp only [Nat.add_zero, Nat.mul_one] at q0
      have HTK := hid (show (F.take (j + 1)).map (fun d : LmD => (d.s, List.replicate d.x.names.length true)) = (F.take j).map (fun d => (d.s, List.replicate d.x.names.length true)) ++ [(d.s, List.replicate d.x.names.length true)] by rw [List.take_add_one, hd]; simp)
      have hnlen : d.x.names.length ≤ 900 := by
        have := (HNE.out d (List.mem_of_getElem? hd)).1.1.2.1
        generalize d.x = y at this
        cases this with | mk k t ns a ht hn ha h => exact hn
      obtain ⟨W4, hW4⟩ : ∃ q : World, q = wr.alloc (.cells #[St d.s, .slice none 0 0] 44) := ⟨_, rfl⟩
      have g4 : Grew wr W4 := by rw [hW4]; exact (Fr.refl _ _).alloc _
      have hb4 : W4.heap[wr.heap.size]? = some (.cells #[St d.s, .slice none 0 0] 44 (0, 0)) := by rw [hW4]; exact heap_alloc_new wr _
      have hs4 : W4.heap.size = wr.heap.size + 1 := by rw [hW4]; simp
      have HB4 := hid hb4
      have HG4 := hid g4
      have HS4 := hid hs4
      have HG24 := hid (hgr.trans g4 (fun _ _ f => f))
      clear hcell hcell2 hd hns hgr g4 hb4 hs4
      go_upto_region 7 with (fail)
      rw [← hW4]
      clear hW4 q0
      go_wp2
      obtain ⟨wo, rfl⟩ : ∃ q : World, q = wr := ⟨_, rfl⟩
      go_loopw [8] (fun iv wr => ∃ (k : Nat) (aB : Option Addr) (cB : Nat), k ≤ d.x.names.length ∧ iv = .int .i64 k ∧ wr.heap[wo.heap.size]? = some (.cells #[St d.s, .slice aB k cB] 44 (0, 0)) ∧ Rb W4.heap.size wr (.slice aB k cB) (List.replicate k true) ∧ Fr (fun c => c = wo.heap.size) W4 wr) (fun iv _ => d.x.names.length - (intOf iv).toNat)
      case atStart => exact ⟨0, none, 0, Nat.zero_le _, rfl, HB4.out, Rb.nil _ _, Fr.refl _ _⟩
      case round =>
        obtain ⟨k, aB, cB, hk, rfl, hbo, hrb, hfr⟩ := hrel
        have hs4 := HS4.out
        have hgl : gL < w2.heap.size := World.block_lt_of_cell? w2 _ HQ2.out
        have q2 := hfr.cell (HG24.out.cell HQ2.out (fun f => f)) (by show ¬ gL = wo.heap.size; have := HGR.out.size; omega)
        by_cases hkl : k < d.x.names.length
        · obtain ⟨v', w', hrun, hrb2, hf2, a2, c2, rfl⟩ := hrb.app hfr.size (by omega) 40
          have HRUN := hid hrun
          have hown : ¬ (Value.slice aB k cB).ownBlock = some wo.heap.size := fun e => by have := (hrb.lt e).1; omega
          have hb2 := hf2.get hbo hown
          obtain ⟨k0, k1⟩ := And.intro (cell_of_get hb2 0) (cell_of_get hb2 1)
          obtain ⟨f0, f1⟩ := And.intro (frozen_of_get hb2 0) (frozen_of_get hb2 1)
          have b1 := cell_of_get hbo 1
          have hset : Fr (fun c => c = wo.heap.size) w' (w'.setCell ⟨wo.heap.size, 1, none⟩ (.slice a2 (k + 1) c2)) := (Fr.refl (fun c => c = wo.heap.size) _).setCell (p := ⟨wo.heap.size, 1, none⟩) (fun _ => rfl) _
          have HB9 := hid (show (w'.setCell ⟨wo.heap.size, 1, none⟩ (.slice a2 (k + 1) c2)).heap[wo.heap.size]? = some (.cells #[St d.s, .slice a2 (k + 1) c2] 44 (0, 0)) by simp [World.setCell, Array.getElem?_modify, hb2])
          have HR9 := hid (hrb2.kept hset (fun g hg e => by have := (hrb2.lt hg).1; omega))
          have HF9 := hid ((hfr.trans hf2 (fun c hc e => absurd (hrb.lt e).1 (by omega))).trans hset (fun _ _ e => e))
          clear hbo hrb hfr hrun hrb2 hf2 hown hb2 hset hs4 hgl
          go_wp2_with (at_builtin; refine wpList_app rfl rfl rfl rfl HRUN.out ?_; clear HRUN)
          go_roundw
          case rel => first | exact ⟨k + 1, a2, c2, by omega, by go_num, HB9.out, HR9.out, HF9.out⟩ | exact ⟨k + 1, by omega, by go_num, a2, c2, HB9.out, HR9.out, HF9.out⟩
          case measure => simp [intOf]; omega
        · obtain rfl : k = d.x.names.length := by omega
          have hgw : Grew wo wr := HG4.out.trans hfr (fun c hc e => by omega)
          have hd1 : (NdD.mk d.s d.x.names.length aB cB).v = .slice aB d.x.names.length cB := rfl
          obtain ⟨v', w', hrun, hns9, hf9, a9, m9, c9, rfl⟩ := (HNS.out.grew hgw).app ty31 (by have := hgw.size; have := HGR.out.size; omega) (by
              have := HNS.out.len
              rw [List.length_map, List.length_take] at this
              omega) (d := ⟨d.s, d.x.names.length, aB, cB⟩) (bs := List.replicate d.x.names.length true) (hrb.mono (by have := HGR.out.size; omega)) (by simp) (fun g hg => ⟨fun e => by
              have h1 := (hrb.lt hg).1
              have h2 := (HNS.out.row.lt e).2
              omega, fun d' hd' e => by
              obtain ⟨i, hi⟩ := List.mem_iff_getElem?.1 hd'
              obtain ⟨bs, -, -, h3⟩ := HNS.out.el i d' hi
              have h1 := (hrb.lt hg).1
              have h2 := (h3.lt e).2
              omega⟩) 31
          have HRUN := hid (show (Builtin.append_ #[31, 31] 31 #[.slice aN mN cN, .slice (some ⟨wr.heap.size, 0, none⟩) 1 1]).run Try.prog (wr.alloc (.cells #[St d.s, .slice aB d.x.names.length cB] 44)) = .ok (.slice a9 m9 c9) w' from hrun)
          have HNS9 := hid (show NS 44 w2.heap.size w' (.slice a9 m9 c9) _ ((F.take (j + 1)).map (fun d => (d.s, List.replicate d.x.names.length true))) by rw [HTK.out]; exact hns9)
          have HG9 := hid (show Grew w2 w' from (HGR.out.trans hgw (fun _ _ f => f)).trans hf9 (fun c hc e => by have := (HNS.out.row.lt e).1; omega))
          obtain ⟨b0, b1⟩ := And.intro (cell_of_get hbo 0) (cell_of_get hbo 1)
          clear hbo hrb hfr hrun hns9 hf9 hgw hs4 hgl hd1
          go_wp2_with (at_builtin; refine wpList_app rfl rfl rfl rfl HRUN.out ?_; clear HRUN)
          go_roundw
          case rel => first | exact ⟨j + 1, a9, m9, c9, _, by omega, by go_num, rfl, HNS9.out, HG9.out⟩ | exact ⟨j + 1, by omega, a9, m9, c9, _, by go_num, rfl, HNS9.out, HG9.out⟩ | exact ⟨j + 1, by omega, by go_num, a9, m9, c9, rfl, _, HNS9.out, HG9.out⟩
          case measure => simp [intOf]; omega
    · obtain rfl : j = F.length := by omega
      rw [List.take_of_length_le (Nat.le_refl _)] at HNS
      obtain ⟨W3, rfl⟩ : ∃ q : World, q = wr := ⟨_, rfl⟩
      obtain ⟨Fn, hFn⟩ : ∃ p, p = x.lams := ⟨_, rfl⟩
      rw [← hFn] at HFS
      have hini : ini Fn = F.map (fun d => (d.s, List.replicate d.x.names.length true)) := by
        rw [← HFS.out]; simp [ini, LmD.fn]
      have HNS0 := hid (show NS 44 w2.heap.size W3 (.slice aN mN cN) L (ini Fn) by rw [hini]; exact HNS.out)
      have hLl : L.length = F.length := by have := HNS.out.len; rw [List.length_map] at this; exact this.symm
      have hmN : mN = F.length := by
        obtain ⟨_, _, e2, -⟩ := HNS.out.row.shape
        simp only [Value.slice.injEq] at e2
        rw [e2.2.1]; exact hLl
      subst hmN
      have HLD0 := hid (show ∀ (j : Nat) (d : LmD), F[j]? = some d → ∃ dn, L[j]? = some dn ∧ dn.s = d.s ∧ dn.n = d.x.names.length from fun j d hd => by
        obtain ⟨dn, hdn⟩ := at_of_lt (l := L) (i := j) (by have := (List.getElem?_eq_some_iff.1 hd).1; omega)
        obtain ⟨bs, k1, k2, -⟩ := HNS.out.el j dn hdn
        rw [List.getElem?_map, hd] at k1
        simp at k1
        exact ⟨dn, hdn, k1.1.symm, by rw [← k2, ← k1.2]; simp⟩)
      have HOL := hid (show ∀ b, OL L b → w2.heap.size ≤ b ∧ b < W3.heap.size from fun b ⟨d, hd, e⟩ => by
        obtain ⟨i, hi⟩ := List.mem_iff_getElem?.1 hd
        obtain ⟨bs, -, -, k3⟩ := HNS.out.el i d hi
        exact k3.lt e)
      have HFN := hid hFn
      clear hFn hini hns hgr HNS
      go_wp2
      go_loopw [9] (fun q wr => ∃ (ag : Bool) (nl : Ned), q = .bool ag ∧ NS 44 w2.heap.size wr (.slice aN F.length cN) L nl ∧ Run Fn nl ∧ Fr (OL L) W3 wr ∧ (ag = false → pas Fn nl = nl)) (fun a wr => 2 * totW wr L + (match a with | .bool true => 1 | _ => 0))
      case atStart => exact ⟨true, _, rfl, HNS0.out, Run.zero, Fr.refl _ _, fun e => by cases e⟩
      case round =>
        obtain ⟨ag, nl0, rfl, hns, hrun, hfr, hfix⟩ := hrel
        have HNS := hid hns
        have HRN := hid hrun
        have HFR := hid hfr
        have HFIX := hid hfix
        clear hns hrun hfr hfix
        cases ag
        · go_wp2
          go_ret
          refine ⟨_, _, _, L, nl0, rfl, ?_, ?_, ?_, ?_⟩
          · have hns9 := HNS.out
            have hle : w.heap.size ≤ w2.heap.size := by have := HS1.out; have := HS2.out; omega
            exact ⟨hns9.row.mono hle, hns9.len, fun i d hd => by obtain ⟨bs, k1, k2, k3⟩ := hns9.el i d hd; exact ⟨bs, k1, k2, k3.mono hle⟩, hns9.row', hns9.sep⟩
          · rw [← HFN.out]; exact HRN.out
          · rw [← HFN.out]; exact HFIX.out (by trivial)
          · exact (HGW2.out.trans HGR.out (fun _ _ f => f)).trans HFR.out (fun c hc e => by have := (HOL.out c e).1; have := HS1.out; have := HS2.out; omega)
        · go_wp2
          obtain ⟨wo, rfl⟩ : ∃ q : World, q = wr := ⟨_, rfl⟩
          go_loopw [9, 10] (fun q iv wr => ∃ (ag : Bool) (nl : Ned) (j : Nat), q = .bool ag ∧ iv = .int .i64 j ∧ j ≤ F.length ∧ nl = pasTo Fn nl0 j ∧ PS 44 w2.heap.size (OL L) W3 (.slice aN F.length cN) L nl0 ag nl wr) (fun _ iv _ => F.length - (intOf iv).toNat)
          case atStart => exact ⟨false, nl0, 0, rfl, rfl, Nat.zero_le _, rfl, HNS.out, HFR.out, Nat.le_refl _, (fun e => by cases e), fun _ => rfl⟩
          case round =>
            obtain ⟨ag, nl, j, rfl, rfl, hj, hnl, hps⟩ := hrel
            have HNL := hid hnl
            have HPS := hid hps
            clear hnl
            by_cases hlt : j < F.length
            · obtain ⟨d, hd⟩ := at_of_lt hlt
              obtain ⟨dn, hdn, hdns, hdnn⟩ := HLD0.out j d hd
              obtain ⟨gL, cL2, eL, -, -, -, hgL, hcell⟩ := HFL.out.rx.at LmD.xlen (fun e => by rw [e] at hlt; simp at hlt)
              simp only [Value.slice.injEq] at eL
              obtain ⟨rfl, -, rfl⟩ := eL
              have hg2r : Grew w2 wr := HGR.out.trans hps.fr (fun c hc e => by have := (HOL.out c e).1; omega)
              have q3 : wr.cell? ⟨gL, j * 4 + 3, none⟩ = some (.slice d.aa d.x.parts.length d.ca) := hg2r.cell (hcell j d hd 3 (by omega)) (fun f => f)
              have HQ2 := hid (show w2.cell? ⟨gL, j * 4 + 2, none⟩ = some (.slice d.an d.x.names.length d.cn) from hcell j d hd 2 (by omega))
              have hrd := HFL.out.rd d (List.mem_of_getElem? hd)
              obtain ⟨⟨hne, hxs⟩, hk6⟩ := HNE.out d (List.mem_of_getElem? hd)
              obtain ⟨bx, rx, hpx, hbx, hnb⟩ := hne.body hk6
              have hrow4 := hrd.2.grew hg2r
              rw [hpx] at hrow4
              rcases hrow4.elems with q | ⟨g, o, cap, ev, hcap1, hcap2, -, hel⟩
              · cases q
              simp only [Value.slice.injEq] at ev
              obtain ⟨eaa, -, rfl⟩ := ev
              obtain ⟨an2, cn2, aa2, ca2, he⟩ := hel 0 bx rfl
              rw [Nat.zero_mul, Nat.add_zero] at he
              rw [eaa] at q3
              have hrdb : Rd wr (fun _ => False) (.agg #[Kv bx.kind, St bx.text, .slice an2 bx.names.length cn2, .slice aa2 bx.parts.length ca2]) bx := ⟨_, _, rfl, he.nm.mono (fun _ _ f => f.elim), he.row.mono (fun _ _ f => f.elim)⟩
              have hnll : nl.length = F.length := by rw [hps.ns.len, hLl]
              have hnd4 : Nd wr (fun _ => False) (.slice aN nl.length cN) nl := by rw [hnll]; exact (hps.ns.nd).mono (fun _ _ f => f.elim)
              have hcall := rdem_any hnd4 hrdb hnb.1 (body_mem hpx hxs) wr (Fr.refl _ _)
              rw [hnll] at hcall
              have hpl : (0 : Int) < (d.x.parts.length : Int) := by rw [hpx]; simp
              obtain ⟨c0, c1⟩ := And.intro he.c0 he.c1
              obtain ⟨c2, c3⟩ := And.intro he.c2 he.c3
              obtain ⟨bs0, hbs0, hbl0, -⟩ := hps.ns.el j dn hdn
              rw [hdns] at hbs0
              have HBS0 := hid hbs0
              have HBL0 := hid (show bs0.length = d.x.names.length from by rw [hbl0, hdnn])
              have HNM := hid (hrd.1.grew hg2r)
              have HLD := hid hdn
              have HDNS := hid hdns
              have HSTP := hid (show pasTo Fn nl0 (j + 1) = nl.set j (d.s, nxt (dem nl bx) d.x.names bs0) by
                rw [pasTo, ← HNL.out, stp_at (f := (d.s, d.x)) (by rw [← HFS.out, List.getElem?_map, hd]; rfl) hbs0, hbx])
              have hnlen : d.x.names.length ≤ 900 := by
                have := hne.2.1
                generalize d.x = y at this
                cases this with | mk k t ns a ht hn ha h => exact hn
              have HG2R := hid hg2r
              have HJW := hid (show W3.heap.size ≤ wr.heap.size from hps.fr.size)
              have HDNN := hid hdnn
              clear hps hcell hrd hne hk6 hpx hbx hnb hrow4 hel he hrdb hnd4 hbs0 hbl0 hd hcap1 hcap2 eaa hnll hdns hdn hdnn hg2r hxs hgL
              go_upto_region 19 with (go_at_call 52; (with_reducible refine hcall.mono ?_); rintro e wd ⟨v5, rfl, hrs5, hg5⟩; clear hcall c0 c1 c2 c3 q3; obtain ⟨aS, cS, A, ls, rfl, hrs⟩ := hrs5)
              obtain ⟨dm, hdm⟩ : ∃ q, q = dem nl bx := ⟨_, rfl⟩
              rw [← hdm] at hrs HSTP
              clear hdm
              obtain ⟨W6, hW6⟩ : ∃ q : World, q = wd.alloc (.cells #[.slice aS ls.length cS, .bool A] 89) := ⟨_, rfl⟩
              have g56 : Grew wd W6 := by rw [hW6]; exact (Fr.refl _ _).alloc _
              have ho6 : W6.heap[wd.heap.size]? = some (.cells #[.slice aS ls.length cS, .bool A] 89 (0, 0)) := by rw [hW6]; exact heap_alloc_new wd _
              have g46 := hg5.trans g56 (fun _ _ f => f)
              have HG6 := hid g46
              have HO6 := hid ho6
              have HRS6 := hid (hrs.kept g56)
              have HNM6 := hid (HNM.out.grew g46)
              have HQ26 := hid ((HG2R.out.trans g46 (fun _ _ f => f)).cell HQ2.out (fun f => f))
              have HSZ6 := hid (show W3.heap.size ≤ wd.heap.size ∧ gL < w2.heap.size by have := HJW.out; have := hg5.size; have := World.block_lt_of_cell? w2 _ HQ2.out; simp at this; omega)
              obtain ⟨dan, hdan⟩ : ∃ q, d.an = q := ⟨_, rfl⟩
              rw [hdan] at HNM6 HQ26
              clear g56 ho6 g46 hg5 hrs hdan
              rw [← hW6]
              clear hW6
              go_wp2
              obtain ⟨wp, rfl⟩ : ∃ q : World, q = wr := ⟨_, rfl⟩
              go_loopw [9, 12] (fun q iv wr => ∃ (ag : Bool) (nl2 : Ned) (k : Nat), q = .bool ag ∧ iv = .int .i64 k ∧ k ≤ d.x.names.length ∧ nl2 = nl.set j (d.s, nxtTo dm d.x.names bs0 k) ∧ PS 44 w2.heap.size (OL L) W3 (.slice aN F.length cN) L nl0 ag nl2 wr ∧ Fr (OL L) W6 wr ∧ RS wr aS cS A ls dm) (fun _ iv _ => d.x.names.length - (intOf iv).toNat)
              case atStart => exact ⟨ag, nl, 0, rfl, rfl, Nat.zero_le _, by rw [nxtTo_zero]; exact (set_self HBS0.out).symm, HPS.out.grew HG6.out, Fr.refl _ _, HRS6.out⟩
              case round =>
                obtain ⟨ag, nl2, k, rfl, rfl, hk, hnl2, hps, hfr, hrs⟩ := hrel
                have HN2 := hid hnl2
                have HPS2 := hid hps
                have HFR6 := hid hfr
                have HRS := hid hrs
                have hOBn : ∀ b, W3.heap.size ≤ b → ¬ OL L b := fun b hb e => by have := (HOL.out b e).2; omega
                obtain ⟨gN, cN2, eN, -, -, -, -, hncell⟩ := hps.ns.row.at NdD.len (fun e => by have := HLD.out; rw [e] at this; simp at this)
                simp only [Value.slice.injEq] at eN
                obtain ⟨rfl, -, rfl⟩ := eN
                have nc1 : wr.cell? ⟨gN, j * 2 + 1, none⟩ = some (.slice dn.ao d.x.names.length dn.co) := by
                  have h1 := hncell j dn HLD.out 1 (by omega)
                  rw [← HDNN.out]; exact h1
                have hj2 : (j : Int) < (F.length : Int) := by omega
                by_cases hkl : k < d.x.names.length
                · obtain ⟨s, hs⟩ := at_of_lt hkl
                  obtain ⟨gn, on, cn', e, -, -, hgn, hnel⟩ := HNM6.out.row (fun e => by rw [e] at hkl; simp at hkl)
                  simp only [Value.slice.injEq] at e
                  obtain ⟨rfl, -, ecn⟩ := e
                  have nam := hfr.cell (hnel k s hs) (fun e => hgn (by have h1 : w2.heap.size ≤ gn := (HOL.out _ e).1; have h2 := HS1.out; have h3 := HS2.out; show w.heap.size ≤ gn; omega))
                  have HQ2r := hid (hfr.cell HQ26.out (fun e => by have h1 : w2.heap.size ≤ gL := (HOL.out _ e).1; have := HSZ6.out; omega))
                  obtain ⟨bs2, hb2, hl2, hrb⟩ := hps.ns.el j dn HLD.out
                  rw [HDNS.out] at hb2
                  have hb2' : bs2 = nxtTo dm d.x.names bs0 k := by
                    have h1 := List.getElem?_set_self (a := (d.s, nxtTo dm d.x.names bs0 k)) (List.getElem?_eq_some_iff.1 HBS0.out).1
                    rw [← hnl2, hb2] at h1
                    cases h1
                    rfl
                  obtain ⟨b, hb⟩ := at_of_lt (l := bs0) (i := k) (by have := HBL0.out; omega)
                  have hbk : bs2[k]? = some b := by rw [hb2', nxtTo_at]; exact hb
                  obtain ⟨gB, cap9, e9, -, -, -, -, hbc, hbf⟩ := hrb.at (fun e => by rw [e] at hbk; simp at hbk)
                  have e9' : dn.ao = some ⟨gB, 0, none⟩ := by
                    simp only [NdD.v, Value.slice.injEq] at e9
                    exact e9.1
                  have HBC := hid (hbc k b hbk)
                  have bf := hbf k
                  have HNC := hid (show wr.cell? ⟨gN, j * 2 + 1, none⟩ = some (.slice (some ⟨gB, 0, none⟩) d.x.names.length dn.co) by rw [← e9']; exact nc1)
                  have hdv : dn.v = .slice (some ⟨gB, 0, none⟩) bs2.length cap9 := e9
                  have HDV := hid hdv
                  have HBF := hid bf
                  have ho := hfr.get HO6.out (hOBn _ (by have := HSZ6.out; omega))
                  have HO := hid (And.intro (cell_of_get ho 0) (cell_of_get ho 1))
                  have HNAM := hid nam
                  have HSK := hid hs
                  have HBK := hid hb
                  have HB2 := hid hb2
                  have HBB := hid hbk
                  have HB2E := hid hb2'
                  have HECN := hid ecn
                  clear hnl2 hps hfr hs hnel hgn hncell hb2 hl2 hrb hb2' hb hbk hbc hbf e9 ho hOBn ecn hrs nam e9' bf hdv
                  have HSAME := hid (fun (h : b = false ∨ dm.all ∨ dm.mem s) => show nl2 = nl.set j (d.s, nxtTo dm d.x.names bs0 (k + 1)) by rw [nxtTo_same dm HBK.out (nxt_keep HSK.out HBK.out h)]; exact HN2.out)
                  have hkn : (k : Int) < (d.x.names.length : Int) := by omega
                  go_upto_region 22 with (fail)
                  clear nc1
                  cases b
                  case false =>
                    have HS2 := hid (HSAME.out (.inl rfl))
                    refine Rg.wp_region_facts 27 Grew [(74, Rg.Ex (.slice (some ⟨gN, 0, none⟩) F.length cN)), (75, Rg.Ex (.int .i64 (j : Int))), (76, Rg.Ex (.pointer (some ⟨gN, j * 2, none⟩))), (77, Rg.Ex (.pointer (some ⟨gN, j * 2 + 1, none⟩))), (78, Rg.Ex (.slice (some ⟨gB, 0, none⟩) d.x.names.length dn.co)), (79, Rg.Ex (.int .i64 (k : Int))), (80, Rg.Ex (.pointer (some ⟨gB, k, none⟩))), (81, Rg.Ex (.bool false)), (82, Rg.Ex (.bool false)), (83, Rg.Ex (undef)), (84, Rg.Ex (undef)), (85, Rg.Ex (undef)), (86, Rg.Ex (.bool false)), (87, Rg.Ex (.bool false)), (88, Rg.Ex (undef)), (89, Rg.Ex (undef)), (90, Rg.Ex (undef)), (91, Rg.Ex (undef)), (92, Rg.Ex (undef)), (93, Rg.Ex (undef)), (94, Rg.Ex (undef)), (95, Rg.Ex (undef)), (96, Rg.Ex (undef)), (97, Rg.Ex (undef)), (98, Rg.Ex (undef)), (99, Rg.Ex (undef)), (100, Rg.Ex (.bool false))] (by kernel_rfl) (by kernel_rfl) (by rfl) (by rfl)
                      (fun a => Fr.refl _ a) (fun a b c h k => h.trans k (fun _ _ f => f)) (Fr.refl _ _).drew
                      (Rg.Stays.all ⟨Rg.Ex.stays _, Rg.Ex.stays _, Rg.Ex.stays _, Rg.Ex.stays _, Rg.Ex.stays _, Rg.Ex.stays _, Rg.Ex.stays _, Rg.Ex.stays _, Rg.Ex.stays _, Rg.Ex.stays _, Rg.Ex.stays _, Rg.Ex.stays _, Rg.Ex.stays _, Rg.Ex.stays _, Rg.Ex.stays _, Rg.Ex.stays _, Rg.Ex.stays _, Rg.Ex.stays _, Rg.Ex.stays _, Rg.Ex.stays _, Rg.Ex.stays _, Rg.Ex.stays _, Rg.Ex.stays _, Rg.Ex.stays _, Rg.Ex.stays _, Rg.Ex.stays _, Rg.Ex.stays _, trivial⟩) ?_ ?_
                    · go_light
                      refine Rg.OpGoals.cons (Rg.OpGoal.plain rfl ?_) (Rg.OpGoals.cons (Rg.OpGoal.plain rfl ?_) (Rg.OpGoals.cons (Rg.OpGoal.plain rfl ?_) (Rg.OpGoals.cons (Rg.OpGoal.plain rfl ?_) (Rg.OpGoals.cons (Rg.OpGoal.plain rfl ?_) (Rg.OpGoals.cons (Rg.OpGoal.plain rfl ?_) (Rg.OpGoals.cons (Rg.OpGoal.plain rfl ?_) (Rg.OpGoals.cons (Rg.OpGoal.plain rfl ?_) (Rg.OpGoals.cons (Rg.OpGoal.plain rfl ?_) (Rg.OpGoals.cons (Rg.OpGoal.passed (d := 82) (want := true) rfl (fun _ _ h e => nomatch (h.symm.trans e)) (fun _ _ h => by cases h; rfl)) (Rg.OpGoals.cons (Rg.OpGoal.passed (d := 82) (want := true) rfl (fun _ _ h e => nomatch (h.symm.trans e)) (fun _ _ h => by cases h; rfl)) (Rg.OpGoals.cons (Rg.OpGoal.passed (d := 82) (want := true) rfl (fun _ _ h e => nomatch (h.symm.trans e)) (fun _ _ h => by cases h; rfl)) (Rg.OpGoals.cons (Rg.OpGoal.plain rfl ?_) (Rg.OpGoals.cons (Rg.OpGoal.plain rfl ?_) (Rg.OpGoals.cons (Rg.OpGoal.passed (d := 87) (want := true) rfl (fun _ _ h e => nomatch (h.symm.trans e)) (fun _ _ h => by cases h; rfl)) (Rg.OpGoals.cons (Rg.OpGoal.passed (d := 87) (want := true) rfl (fun _ _ h e => nomatch (h.symm.trans e)) (fun _ _ h => by cases h; rfl)) (Rg.OpGoals.cons (Rg.OpGoal.passed (d := 87) (want := true) rfl (fun _ _ h e => nomatch (h.symm.trans e)) (fun _ _ h => by cases h; rfl)) (Rg.OpGoals.cons (Rg.OpGoal.passed (d := 87) (want := true) rfl (fun _ _ h e => nomatch (h.symm.trans e)) (fun _ _ h => by cases h; rfl)) (Rg.OpGoals.cons (Rg.OpGoal.passed (d := 87) (want := true) rfl (fun _ _ h e => nomatch (h.symm.trans e)) (fun _ _ h => by cases h; rfl)) (Rg.OpGoals.cons (Rg.OpGoal.passed (d := 87) (want := true) rfl (fun _ _ h e => nomatch (h.symm.trans e)) (fun _ _ h => by cases h; rfl)) (Rg.OpGoals.cons (Rg.OpGoal.passed (d := 87) (want := true) rfl (fun _ _ h e => nomatch (h.symm.trans e)) (fun _ _ h => by cases h; rfl)) (Rg.OpGoals.cons (Rg.OpGoal.passed (d := 87) (want := true) rfl (fun _ _ h e => nomatch (h.symm.trans e)) (fun _ _ h => by cases h; rfl)) (Rg.OpGoals.cons (Rg.OpGoal.passed (d := 87) (want := true) rfl (fun _ _ h e => nomatch (h.symm.trans e)) (fun _ _ h => by cases h; rfl)) (Rg.OpGoals.cons (Rg.OpGoal.passed (d := 87) (want := true) rfl (fun _ _ h e => nomatch (h.symm.trans e)) (fun _ _ h => by cases h; rfl)) (Rg.OpGoals.cons (Rg.OpGoal.passed (d := 87) (want := true) rfl (fun _ _ h e => nomatch (h.symm.trans e)) (fun _ _ h => by cases h; rfl)) (Rg.OpGoals.cons (Rg.OpGoal.passed (d := 87) (want := true) rfl (fun _ _ h e => nomatch (h.symm.trans e)) (fun _ _ h => by cases h; rfl)) (Rg.OpGoals.cons (Rg.OpGoal.plain rfl ?_) Rg.OpGoals.none))))))))))))))))))))))))))
                      all_goals (intro a' w' hS hR; simp [Rg.Rd, Op.operands, Rg.Fk, Rg.Ex] at hR)
                      all_goals (have nc' := hS.cell HNC.out (fun f => f))
                      all_goals (have bc' := hS.cell HBC.out (fun f => f))
                      all_goals try (simp [Rg.Yields, execOp, Act.eval, hR, nc', bc', hj2, hkn, go_sem, Rg.Fk, Rg.Ex, Fr.refl]; done)
                    · intro w8 hS
                      rintro _ rfl _ rfl _ rfl _ rfl _ rfl _ rfl _ rfl _ rfl _ rfl _ rfl _ rfl _ rfl _ rfl _ rfl _ rfl _ rfl _ rfl _ rfl _ rfl _ rfl _ rfl _ rfl _ rfl _ rfl _ rfl _ rfl _ rfl
                      refine Rg.Then.nil ?_
                      have HP8 := hid (HPS2.out.grew hS)
                      have HF8 := hid (HFR6.out.trans (Grew.any hS) (fun _ _ e => e))
                      have HRS8 := hid (HRS.out.kept hS)
                      clear hS
                      go_wp2
                      go_roundw
                      case rel => exact ⟨ag, nl2, k + 1, rfl, by go_num, by omega, HS2.out, HP8.out, HF8.out, HRS8.out⟩
                      case measure => simp [intOf]; omega
                  case true =>
                    cases A
                    case true =>
                      have HS2 := hid (HSAME.out (.inr (.inl (HRS.out.all.1 rfl))))
                      refine Rg.wp_region_facts 27 Grew [(74, Rg.Ex (.slice (some ⟨gN, 0, none⟩) F.length cN)), (75, Rg.Ex (.int .i64 (j : Int))), (76, Rg.Ex (.pointer (some ⟨gN, j * 2, none⟩))), (77, Rg.Ex (.pointer (some ⟨gN, j * 2 + 1, none⟩))), (78, Rg.Ex (.slice (some ⟨gB, 0, none⟩) d.x.names.length dn.co)), (79, Rg.Ex (.int .i64 (k : Int))), (80, Rg.Ex (.pointer (some ⟨gB, k, none⟩))), (81, Rg.Ex (.bool true)), (82, Rg.Ex (.bool true)), (83, Rg.Ex (.pointer (some ⟨wd.heap.size, 1, none⟩))), (84, Rg.Ex (.bool true)), (85, Rg.Ex (.bool false)), (86, Rg.Ex (.bool false)), (87, Rg.Ex (.bool false)), (88, Rg.Ex (undef)), (89, Rg.Ex (undef)), (90, Rg.Ex (undef)), (91, Rg.Ex (undef)), (92, Rg.Ex (undef)), (93, Rg.Ex (undef)), (94, Rg.Ex (undef)), (95, Rg.Ex (undef)), (96, Rg.Ex (undef)), (97, Rg.Ex (undef)), (98, Rg.Ex (undef)), (99, Rg.Ex (undef)), (100, Rg.Ex (.bool false))] (by kernel_rfl) (by kernel_rfl) (by rfl) (by rfl)
                        (fun a => Fr.refl _ a) (fun a b c h k => h.trans k (fun _ _ f => f)) (Fr.refl _ _).drew
                        (Rg.Stays.all ⟨Rg.Ex.stays _, Rg.Ex.stays _, Rg.Ex.stays _, Rg.Ex.stays _, Rg.Ex.stays _, Rg.Ex.stays _, Rg.Ex.stays _, Rg.Ex.stays _, Rg.Ex.stays _, Rg.Ex.stays _, Rg.Ex.stays _, Rg.Ex.stays _, Rg.Ex.stays _, Rg.Ex.stays _, Rg.Ex.stays _, Rg.Ex.stays _, Rg.Ex.stays _, Rg.Ex.stays _, Rg.Ex.stays _, Rg.Ex.stays _, Rg.Ex.stays _, Rg.Ex.stays _, Rg.Ex.stays _, Rg.Ex.stays _, Rg.Ex.stays _, Rg.Ex.stays _, Rg.Ex.stays _, trivial⟩) ?_ ?_
                      · go_light
                        refine Rg.OpGoals.cons (Rg.OpGoal.plain rfl ?_) (Rg.OpGoals.cons (Rg.OpGoal.plain rfl ?_) (Rg.OpGoals.cons (Rg.OpGoal.plain rfl ?_) (Rg.OpGoals.cons (Rg.OpGoal.plain rfl ?_) (Rg.OpGoals.cons (Rg.OpGoal.plain rfl ?_) (Rg.OpGoals.cons (Rg.OpGoal.plain rfl ?_) (Rg.OpGoals.cons (Rg.OpGoal.plain rfl ?_) (Rg.OpGoals.cons (Rg.OpGoal.plain rfl ?_) (Rg.OpGoals.cons (Rg.OpGoal.plain rfl ?_) (Rg.OpGoals.cons (Rg.OpGoal.guarded (d := 82) (want := true) rfl (fun _ _ h => h) ?_) (Rg.OpGoals.cons (Rg.OpGoal.guarded (d := 82) (want := true) rfl (fun _ _ h => h) ?_) (Rg.OpGoals.cons (Rg.OpGoal.guarded (d := 82) (want := true) rfl (fun _ _ h => h) ?_) (Rg.OpGoals.cons (Rg.OpGoal.plain rfl ?_) (Rg.OpGoals.cons (Rg.OpGoal.plain rfl ?_) (Rg.OpGoals.cons (Rg.OpGoal.passed (d := 87) (want := true) rfl (fun _ _ h e => nomatch (h.symm.trans e)) (fun _ _ h => by cases h; rfl)) (Rg.OpGoals.cons (Rg.OpGoal.passed (d := 87) (want := true) rfl (fun _ _ h e => nomatch (h.symm.trans e)) (fun _ _ h => by cases h; rfl)) (Rg.OpGoals.cons (Rg.OpGoal.passed (d := 87) (want := true) rfl (fun _ _ h e => nomatch (h.symm.trans e)) (fun _ _ h => by cases h; rfl)) (Rg.OpGoals.cons (Rg.OpGoal.passed (d := 87) (want := true) rfl (fun _ _ h e => nomatch (h.symm.trans e)) (fun _ _ h => by cases h; rfl)) (Rg.OpGoals.cons (Rg.OpGoal.passed (d := 87) (want := true) rfl (fun _ _ h e => nomatch (h.symm.trans e)) (fun _ _ h => by cases h; rfl)) (Rg.OpGoals.cons (Rg.OpGoal.passed (d := 87) (want := true) rfl (fun _ _ h e => nomatch (h.symm.trans e)) (fun _ _ h => by cases h; rfl)) (Rg.OpGoals.cons (Rg.OpGoal.passed (d := 87) (want := true) rfl (fun _ _ h e => nomatch (h.symm.trans e)) (fun _ _ h => by cases h; rfl)) (Rg.OpGoals.cons (Rg.OpGoal.passed (d := 87) (want := true) rfl (fun _ _ h e => nomatch (h.symm.trans e)) (fun _ _ h => by cases h; rfl)) (Rg.OpGoals.cons (Rg.OpGoal.passed (d := 87) (want := true) rfl (fun _ _ h e => nomatch (h.symm.trans e)) (fun _ _ h => by cases h; rfl)) (Rg.OpGoals.cons (Rg.OpGoal.passed (d := 87) (want := true) rfl (fun _ _ h e => nomatch (h.symm.trans e)) (fun _ _ h => by cases h; rfl)) (Rg.OpGoals.cons (Rg.OpGoal.passed (d := 87) (want := true) rfl (fun _ _ h e => nomatch (h.symm.trans e)) (fun _ _ h => by cases h; rfl)) (Rg.OpGoals.cons (Rg.OpGoal.passed (d := 87) (want := true) rfl (fun _ _ h e => nomatch (h.symm.trans e)) (fun _ _ h => by cases h; rfl)) (Rg.OpGoals.cons (Rg.OpGoal.plain rfl ?_) Rg.OpGoals.none))))))))))))))))))))))))))
                        all_goals (intro a' w' hS hR; simp [Rg.Rd, Op.operands, Rg.Fk, Rg.Ex] at hR)
                        all_goals (have nc' := hS.cell HNC.out (fun f => f))
                        all_goals (have bc' := hS.cell HBC.out (fun f => f))
                        all_goals (have o1' := hS.cell HO.out.2 (fun f => f))
                        all_goals try (simp [Rg.Yields, execOp, Act.eval, hR, nc', bc', o1', hj2, hkn, go_sem, Rg.Fk, Rg.Ex, Fr.refl]; done)
                      · intro w8 hS
                        rintro _ rfl _ rfl _ rfl _ rfl _ rfl _ rfl _ rfl _ rfl _ rfl _ rfl _ rfl _ rfl _ rfl _ rfl _ rfl _ rfl _ rfl _ rfl _ rfl _ rfl _ rfl _ rfl _ rfl _ rfl _ rfl _ rfl _ rfl
                        refine Rg.Then.nil ?_
                        have HP8 := hid (HPS2.out.grew hS)
                        have HF8 := hid (HFR6.out.trans (Grew.any hS) (fun _ _ e => e))
                        have HRS8 := hid (HRS.out.kept hS)
                        clear hS
                        go_wp2
                        go_roundw
                        case rel => exact ⟨ag, nl2, k + 1, rfl, by go_num, by omega, HS2.out, HP8.out, HF8.out, HRS8.out⟩
                        case measure => simp [intOf]; omega
                    case false =>
                      by_cases hin : s ∈ ls
                      · have HS2 := hid (HSAME.out (.inr (.inr ((HRS.out.mem rfl s).1 hin))))
                        have HDEC := hid (decide_eq_true hin)
                        clear hin
                        refine Rg.wp_region_facts 27 Grew [(74, Rg.Ex (.slice (some ⟨gN, 0, none⟩) F.length cN)), (75, Rg.Ex (.int .i64 (j : Int))), (76, Rg.Ex (.pointer (some ⟨gN, j * 2, none⟩))), (77, Rg.Ex (.pointer (some ⟨gN, j * 2 + 1, none⟩))), (78, Rg.Ex (.slice (some ⟨gB, 0, none⟩) d.x.names.length dn.co)), (79, Rg.Ex (.int .i64 (k : Int))), (80, Rg.Ex (.pointer (some ⟨gB, k, none⟩))), (81, Rg.Ex (.bool true)), (82, Rg.Ex (.bool true)), (83, Rg.Ex (.pointer (some ⟨wd.heap.size, 1, none⟩))), (84, Rg.Ex (.bool false)), (85, Rg.Ex (.bool true)), (86, Rg.Ex (.bool true)), (87, Rg.Ex (.bool true)), (88, Rg.Ex (.pointer (some ⟨wd.heap.size, 0, none⟩))), (89, Rg.Ex (.slice aS ls.length cS)), (90, Rg.Ex (.slice (some ⟨gL, 0, none⟩) F.length cL)), (91, Rg.Ex (.int .i64 (j : Int))), (92, Rg.Ex (.pointer (some ⟨gL, j * 4, none⟩))), (93, Rg.Ex (.pointer (some ⟨gL, j * 4 + 2, none⟩))), (94, Rg.Ex (.slice (some ⟨gn, on, none⟩) d.x.names.length d.cn)), (95, Rg.Ex (.int .i64 (k : Int))), (96, Rg.Ex (.pointer (some ⟨gn, on + k, none⟩))), (97, Rg.Ex (St s)), (98, Rg.Ex (.bool true)), (99, Rg.Ex (.bool false)), (100, Rg.Ex (.bool false))] (by kernel_rfl) (by kernel_rfl) (by rfl) (by rfl)
                          (fun a => Fr.refl _ a) (fun a b c h k => h.trans k (fun _ _ f => f)) (Fr.refl _ _).drew
                          (Rg.Stays.all ⟨Rg.Ex.stays _, Rg.Ex.stays _, Rg.Ex.stays _, Rg.Ex.stays _, Rg.Ex.stays _, Rg.Ex.stays _, Rg.Ex.stays _, Rg.Ex.stays _, Rg.Ex.stays _, Rg.Ex.stays _, Rg.Ex.stays _, Rg.Ex.stays _, Rg.Ex.stays _, Rg.Ex.stays _, Rg.Ex.stays _, Rg.Ex.stays _, Rg.Ex.stays _, Rg.Ex.stays _, Rg.Ex.stays _, Rg.Ex.stays _, Rg.Ex.stays _, Rg.Ex.stays _, Rg.Ex.stays _, Rg.Ex.stays _, Rg.Ex.stays _, Rg.Ex.stays _, Rg.Ex.stays _, trivial⟩) ?_ ?_
                        · go_light
                          refine Rg.OpGoals.cons (Rg.OpGoal.plain rfl ?_) (Rg.OpGoals.cons (Rg.OpGoal.plain rfl ?_) (Rg.OpGoals.cons (Rg.OpGoal.plain rfl ?_) (Rg.OpGoals.cons (Rg.OpGoal.plain rfl ?_) (Rg.OpGoals.cons (Rg.OpGoal.plain rfl ?_) (Rg.OpGoals.cons (Rg.OpGoal.plain rfl ?_) (Rg.OpGoals.cons (Rg.OpGoal.plain rfl ?_) (Rg.OpGoals.cons (Rg.OpGoal.plain rfl ?_) (Rg.OpGoals.cons (Rg.OpGoal.plain rfl ?_) (Rg.OpGoals.cons (Rg.OpGoal.guarded (d := 82) (want := true) rfl (fun _ _ h => h) ?_) (Rg.OpGoals.cons (Rg.OpGoal.guarded (d := 82) (want := true) rfl (fun _ _ h => h) ?_) (Rg.OpGoals.cons (Rg.OpGoal.guarded (d := 82) (want := true) rfl (fun _ _ h => h) ?_) (Rg.OpGoals.cons (Rg.OpGoal.plain rfl ?_) (Rg.OpGoals.cons (Rg.OpGoal.plain rfl ?_) (Rg.OpGoals.cons (Rg.OpGoal.guarded (d := 87) (want := true) rfl (fun _ _ h => h) ?_) (Rg.OpGoals.cons (Rg.OpGoal.guarded (d := 87) (want := true) rfl (fun _ _ h => h) ?_) (Rg.OpGoals.cons (Rg.OpGoal.guarded (d := 87) (want := true) rfl (fun _ _ h => h) ?_) (Rg.OpGoals.cons (Rg.OpGoal.guarded (d := 87) (want := true) rfl (fun _ _ h => h) ?_) (Rg.OpGoals.cons (Rg.OpGoal.guarded (d := 87) (want := true) rfl (fun _ _ h => h) ?_) (Rg.OpGoals.cons (Rg.OpGoal.guarded (d := 87) (want := true) rfl (fun _ _ h => h) ?_) (Rg.OpGoals.cons (Rg.OpGoal.guarded (d := 87) (want := true) rfl (fun _ _ h => h) ?_) (Rg.OpGoals.cons (Rg.OpGoal.guarded (d := 87) (want := true) rfl (fun _ _ h => h) ?_) (Rg.OpGoals.cons (Rg.OpGoal.guarded (d := 87) (want := true) rfl (fun _ _ h => h) ?_) (Rg.OpGoals.cons (Rg.OpGoal.guarded (d := 87) (want := true) rfl (fun _ _ h => h) ?_) (Rg.OpGoals.cons (Rg.OpGoal.guarded (d := 87) (want := true) rfl (fun _ _ h => h) ?_) (Rg.OpGoals.cons (Rg.OpGoal.guarded (d := 87) (want := true) rfl (fun _ _ h => h) ?_) (Rg.OpGoals.cons (Rg.OpGoal.plain rfl ?_) Rg.OpGoals.none))))))))))))))))))))))))))
                          all_goals (intro a' w' hS hR; simp [Rg.Rd, Op.operands, Call.operands, Rg.Fk, Rg.Ex] at hR)
                          all_goals (have nc' := hS.cell HNC.out (fun f => f))
                          all_goals (have bc' := hS.cell HBC.out (fun f => f))
                          all_goals (have o1' := hS.cell HO.out.2 (fun f => f))
                          all_goals (have o0' := hS.cell HO.out.1 (fun f => f))
                          all_goals (have q2' := hS.cell HQ2r.out (fun f => f))
                          all_goals (have nam' := hS.cell HNAM.out (fun f => f))
                          all_goals try (simp [Rg.Yields, execOp, Act.eval, hR, nc', bc', o1', o0', q2', nam', hj2, hkn, go_sem, Rg.Fk, Rg.Ex, Fr.refl]; done)
                          · simp [Rg.Yields, Act.eval, hR, go_sem, Rg.Fk, Rg.Ex]
                            refine (in_any (HRS.out.nm.grew hS) s).mono ?_
                            rintro e w2 ⟨rfl, rfl⟩
                            exact ⟨_, rfl, by rw [HDEC.out], Fr.refl _ _⟩
                        · intro w8 hS
                          rintro _ rfl _ rfl _ rfl _ rfl _ rfl _ rfl _ rfl _ rfl _ rfl _ rfl _ rfl _ rfl _ rfl _ rfl _ rfl _ rfl _ rfl _ rfl _ rfl _ rfl _ rfl _ rfl _ rfl _ rfl _ rfl _ rfl _ rfl
                          refine Rg.Then.nil ?_
                          have HP8 := hid (HPS2.out.grew hS)
                          have HF8 := hid (HFR6.out.trans (Grew.any hS) (fun _ _ e => e))
                          have HRS8 := hid (HRS.out.kept hS)
                          clear hS
                          go_wp2
                          go_roundw
                          case rel => exact ⟨ag, nl2, k + 1, rfl, by go_num, by omega, HS2.out, HP8.out, HF8.out, HRS8.out⟩
                          case measure => simp [intOf]; omega
                      · have HNO := hid (show ¬ (dm.all ∨ dm.mem s) from fun z => z.elim (fun y => by have := HRS.out.all.2 y; cases this) (fun y => hin ((HRS.out.mem rfl s).2 y)))
                        have HDEC := hid (decide_eq_false hin)
                        clear hin
                        refine Rg.wp_region_facts 27 Grew [(74, Rg.Ex (.slice (some ⟨gN, 0, none⟩) F.length cN)), (75, Rg.Ex (.int .i64 (j : Int))), (76, Rg.Ex (.pointer (some ⟨gN, j * 2, none⟩))), (77, Rg.Ex (.pointer (some ⟨gN, j * 2 + 1, none⟩))), (78, Rg.Ex (.slice (some ⟨gB, 0, none⟩) d.x.names.length dn.co)), (79, Rg.Ex (.int .i64 (k : Int))), (80, Rg.Ex (.pointer (some ⟨gB, k, none⟩))), (81, Rg.Ex (.bool true)), (82, Rg.Ex (.bool true)), (83, Rg.Ex (.pointer (some ⟨wd.heap.size, 1, none⟩))), (84, Rg.Ex (.bool false)), (85, Rg.Ex (.bool true)), (86, Rg.Ex (.bool true)), (87, Rg.Ex (.bool true)), (88, Rg.Ex (.pointer (some ⟨wd.heap.size, 0, none⟩))), (89, Rg.Ex (.slice aS ls.length cS)), (90, Rg.Ex (.slice (some ⟨gL, 0, none⟩) F.length cL)), (91, Rg.Ex (.int .i64 (j : Int))), (92, Rg.Ex (.pointer (some ⟨gL, j * 4, none⟩))), (93, Rg.Ex (.pointer (some ⟨gL, j * 4 + 2, none⟩))), (94, Rg.Ex (.slice (some ⟨gn, on, none⟩) d.x.names.length d.cn)), (95, Rg.Ex (.int .i64 (k : Int))), (96, Rg.Ex (.pointer (some ⟨gn, on + k, none⟩))), (97, Rg.Ex (St s)), (98, Rg.Ex (.bool false)), (99, Rg.Ex (.bool true)), (100, Rg.Ex (.bool true))] (by kernel_rfl) (by kernel_rfl) (by rfl) (by rfl)
                          (fun a => Fr.refl _ a) (fun a b c h k => h.trans k (fun _ _ f => f)) (Fr.refl _ _).drew
                          (Rg.Stays.all ⟨Rg.Ex.stays _, Rg.Ex.stays _, Rg.Ex.stays _, Rg.Ex.stays _, Rg.Ex.stays _, Rg.Ex.stays _, Rg.Ex.stays _, Rg.Ex.stays _, Rg.Ex.stays _, Rg.Ex.stays _, Rg.Ex.stays _, Rg.Ex.stays _, Rg.Ex.stays _, Rg.Ex.stays _, Rg.Ex.stays _, Rg.Ex.stays _, Rg.Ex.stays _, Rg.Ex.stays _, Rg.Ex.stays _, Rg.Ex.stays _, Rg.Ex.stays _, Rg.Ex.stays _, Rg.Ex.stays _, Rg.Ex.stays _, Rg.Ex.stays _, Rg.Ex.stays _, Rg.Ex.stays _, trivial⟩) ?_ ?_
                        · go_light
                          refine Rg.OpGoals.cons (Rg.OpGoal.plain rfl ?_) (Rg.OpGoals.cons (Rg.OpGoal.plain rfl ?_) (Rg.OpGoals.cons (Rg.OpGoal.plain rfl ?_) (Rg.OpGoals.cons (Rg.OpGoal.plain rfl ?_) (Rg.OpGoals.cons (Rg.OpGoal.plain rfl ?_) (Rg.OpGoals.cons (Rg.OpGoal.plain rfl ?_) (Rg.OpGoals.cons (Rg.OpGoal.plain rfl ?_) (Rg.OpGoals.cons (Rg.OpGoal.plain rfl ?_) (Rg.OpGoals.cons (Rg.OpGoal.plain rfl ?_) (Rg.OpGoals.cons (Rg.OpGoal.guarded (d := 82) (want := true) rfl (fun _ _ h => h) ?_) (Rg.OpGoals.cons (Rg.OpGoal.guarded (d := 82) (want := true) rfl (fun _ _ h => h) ?_) (Rg.OpGoals.cons (Rg.OpGoal.guarded (d := 82) (want := true) rfl (fun _ _ h => h) ?_) (Rg.OpGoals.cons (Rg.OpGoal.plain rfl ?_) (Rg.OpGoals.cons (Rg.OpGoal.plain rfl ?_) (Rg.OpGoals.cons (Rg.OpGoal.guarded (d := 87) (want := true) rfl (fun _ _ h => h) ?_) (Rg.OpGoals.cons (Rg.OpGoal.guarded (d := 87) (want := true) rfl (fun _ _ h => h) ?_) (Rg.OpGoals.cons (Rg.OpGoal.guarded (d := 87) (want := true) rfl (fun _ _ h => h) ?_) (Rg.OpGoals.cons (Rg.OpGoal.guarded (d := 87) (want := true) rfl (fun _ _ h => h) ?_) (Rg.OpGoals.cons (Rg.OpGoal.guarded (d := 87) (want := true) rfl (fun _ _ h => h) ?_) (Rg.OpGoals.cons (Rg.OpGoal.guarded (d := 87) (want := true) rfl (fun _ _ h => h) ?_) (Rg.OpGoals.cons (Rg.OpGoal.guarded (d := 87) (want := true) rfl (fun _ _ h => h) ?_) (Rg.OpGoals.cons (Rg.OpGoal.guarded (d := 87) (want := true) rfl (fun _ _ h => h) ?_) (Rg.OpGoals.cons (Rg.OpGoal.guarded (d := 87) (want := true) rfl (fun _ _ h => h) ?_) (Rg.OpGoals.cons (Rg.OpGoal.guarded (d := 87) (want := true) rfl (fun _ _ h => h) ?_) (Rg.OpGoals.cons (Rg.OpGoal.guarded (d := 87) (want := true) rfl (fun _ _ h => h) ?_) (Rg.OpGoals.cons (Rg.OpGoal.guarded (d := 87) (want := true) rfl (fun _ _ h => h) ?_) (Rg.OpGoals.cons (Rg.OpGoal.plain rfl ?_) Rg.OpGoals.none))))))))))))))))))))))))))
                          all_goals (intro a' w' hS hR; simp [Rg.Rd, Op.operands, Call.operands, Rg.Fk, Rg.Ex] at hR)
                          all_goals (have nc' := hS.cell HNC.out (fun f => f))
                          all_goals (have bc' := hS.cell HBC.out (fun f => f))
                          all_goals (have o1' := hS.cell HO.out.2 (fun f => f))
                          all_goals (have o0' := hS.cell HO.out.1 (fun f => f))
                          all_goals (have q2' := hS.cell HQ2r.out (fun f => f))
                          all_goals (have nam' := hS.cell HNAM.out (fun f => f))
                          all_goals try (simp [Rg.Yields, execOp, Act.eval, hR, nc', bc', o1', o0', q2', nam', hj2, hkn, go_sem, Rg.Fk, Rg.Ex, Fr.refl]; done)
                          · simp [Rg.Yields, Act.eval, hR, go_sem, Rg.Fk, Rg.Ex]
                            refine (in_any (HRS.out.nm.grew hS) s).mono ?_
                            rintro e w2 ⟨rfl, rfl⟩
                            exact ⟨_, rfl, by rw [HDEC.out], Fr.refl _ _⟩
                        · intro w8 hS
                          rintro _ rfl _ rfl _ rfl _ rfl _ rfl _ rfl _ rfl _ rfl _ rfl _ rfl _ rfl _ rfl _ rfl _ rfl _ rfl _ rfl _ rfl _ rfl _ rfl _ rfl _ rfl _ rfl _ rfl _ rfl _ rfl _ rfl _ rfl
                          refine Rg.Then.nil ?_
                          have HG8 := hid hS
                          have nc1 := hS.cell HNC.out (fun f => f)
                          have bc := hS.cell HBC.out (fun f => f)
                          have bf : w8.frozen? ⟨gB, k, none⟩ = false := by
                            have hps8 := HPS2.out.grew hS
                            obtain ⟨bs3, -, -, hrb⟩ := hps8.ns.el j dn HLD.out
                            rcases hrb.2 with ⟨q, -⟩ | ⟨g', cap', cur, q, -, hgg, -⟩
                            · rw [HDV.out] at q; cases q
                            · rw [HDV.out] at q
                              simp only [Value.slice.injEq, Option.some.injEq, Addr.mk.injEq, and_true] at q
                              rw [q.1]
                              exact frozen_of_get hgg k
                          have HBC8 := hid bc
                          clear hS
                          have hset : Fr (fun c => c = gB) w8 (w8.setCell ⟨gB, k, none⟩ (.bool false)) := (Fr.refl (fun c => c = gB) w8).setCell (p := ⟨gB, k, none⟩) (fun _ => rfl) _
                          have hOd : ∀ c, c = gB → OL L c := fun c e => ⟨dn, List.mem_of_getElem? HLD.out, by rw [HDV.out, e]; rfl⟩
                          have hnt := nxtTo_turn dm HBK.out (nxt_drop HSK.out HBK.out HNO.out)
                          have hnew : nl2.set j (d.s, bs2.set k false) = nl.set j (d.s, nxtTo dm d.x.names bs0 (k + 1)) := by
                            rw [hnt, ← HB2E.out, HN2.out, List.set_set]
                          have hns' := (HPS2.out.grew HG8.out).ns.set HLD.out (show nl2[j]? = some (dn.s, bs2) by rw [HDNS.out]; exact HB2.out) HDV.out (k := k) (List.getElem?_eq_some_iff.1 HBB.out).1 false
                          rw [HDNS.out] at hns'
                          have ht1 := tot_set (bs' := bs2.set k false) HB2.out
                          have ht2 := count_set HBB.out
                          have HP9 := hid (show PS 44 w2.heap.size (OL L) W3 (.slice (some ⟨gN, 0, none⟩) F.length cN) L nl0 true (nl.set j (d.s, nxtTo dm d.x.names bs0 (k + 1))) (w8.setCell ⟨gB, k, none⟩ (.bool false)) from by
                            rw [← hnew]
                            have h1 := HPS2.out.le
                            have ht3 : tot (nl2.set j (d.s, bs2.set k false)) + bs2.count true = tot nl2 + (bs2.set k false).count true := ht1
                            exact ⟨hns', (HPS2.out.fr.trans (Grew.any HG8.out) (fun _ _ e => e)).trans hset (fun c _ e => hOd c e), by omega, fun _ => by omega, fun e => by cases e⟩)
                          have HF9 := hid ((HFR6.out.trans (Grew.any HG8.out) (fun _ _ e => e)).trans hset (fun c _ e => hOd c e))
                          have HRS9 := hid (RS.truth (u := .bool false) (HRS.out.kept HG8.out) HBC8.out)
                          clear hset hOd hnt hnew hns' ht1 ht2
                          go_wp2
                          go_roundw
                          case rel => exact ⟨true, _, k + 1, rfl, by go_num, by omega, rfl, HP9.out, HF9.out, HRS9.out⟩
                          case measure => simp [intOf]; omega
                · obtain rfl : k = d.x.names.length := by omega
                  have HE2 := hid (show nl2 = pasTo Fn nl0 (j + 1) by rw [hnl2, nxtTo_all _ _ _ (by have := HBL0.out; omega)]; exact HSTP.out.symm)
                  clear hnl2 hps hfr hrs hncell
                  go_wp2
                  go_roundw
                  case rel => exact ⟨ag, nl2, j + 1, rfl, by go_num, by omega, HE2.out, HPS2.out⟩
                  case measure => simp [intOf]; omega
            · obtain rfl : j = F.length := by omega
              have hFl : Fn.length = F.length := by rw [← HFS.out, List.length_map]
              have HP2 := hid (show nl = pas Fn nl0 by rw [HNL.out]; unfold pas; rw [hFl])
              clear hps hFl
              go_wp2
              go_roundw
              case rel => exact ⟨ag, nl, rfl, HPS.out.ns, by rw [HP2.out]; exact Run.succ _ HRN.out, HPS.out.fr, fun e => by have e2 := HPS.out.eq e; rw [e2]; rw [← HP2.out]; exact e2⟩
              case measure =>
                have h1 := HPS.out.ns.tot
                have h2 := HNS.out.tot
                have h3 := HPS.out.le
                cases ag
                · simp only []; omega
                · have := HPS.out.lt rfl
                  simp only []; omega
end Go.Proofs.Ytddcfnjmppijjaa
