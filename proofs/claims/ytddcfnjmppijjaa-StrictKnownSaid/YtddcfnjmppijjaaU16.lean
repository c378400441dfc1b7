import Derived.Test.YtddcfnjmppijjaaV1
import Derived.Test.YtddcfnjmppijjaaU12
import Derived.Test.YtddcfnjmppijjaaP5
import Derived.Lib.SliceRun
/-! strict.functions. -/
namespace Go.Proofs.Ytddcfnjmppijjaa
open Go.RowKit

/-- the functions that a let names -/
def lamH (k : Int) (ns : List Str) (a : List X) : List (Str × X) := if k = 9 then (ns.zip a).filter (fun p => decide (p.2.kind = 6)) else []
mutual
/-- all functions of a term, in order -/
def X.lams : X → List (Str × X)
  | .mk k _ ns a => lamH k ns a ++ lamsL a
def lamsL : List X → List (Str × X)
  | [] => []
  | x :: r => x.lams ++ lamsL r
end
theorem zip_take_succ {ns : List Str} {a : List X} {j : Nat} {s : Str} {x : X} (hs : ns[j]? = some s) (hx : a[j]? = some x) : (ns.zip a).take (j + 1) = (ns.zip a).take j ++ [(s, x)] := by
  have h : (ns.zip a)[j]? = some (s, x) := List.getElem?_zip_eq_some.2 ⟨hs, hx⟩
  rw [List.take_add_one, h]
  rfl
theorem lamsL_take {l : List X} {i : Nat} {x : X} (hx : l[i]? = some x) : lamsL (l.take (i + 1)) = lamsL (l.take i) ++ x.lams := by
  induction l generalizing i with
  | nil => simp at hx
  | cons y r ih =>
    cases i with
    | zero => simp at hx; subst hx; simp [lamsL]
    | succ i => simp only [List.take_succ_cons, lamsL, ih (by simpa using hx), List.append_assoc]
theorem X.size_pos (x : X) : 0 < x.size := by cases x; simp [X.size]; omega
def cnt6 : List X → Nat
  | [] => 0
  | x :: r => (if x.kind = 6 then 1 else 0) + cnt6 r
theorem lamH_cnt (k : Int) (ns : List Str) (a : List X) : (lamH k ns a).length ≤ cnt6 a := by
  unfold lamH
  split
  · induction a generalizing ns with
    | nil => simp [cnt6]
    | cons x r ih =>
      cases ns with
      | nil => simp
      | cons s m =>
        have := ih m
        simp only [List.zip_cons_cons, List.filter_cons, cnt6]
        by_cases h : x.kind = 6 <;> simp [h] <;> omega
  · simp
mutual
theorem lams_len : ∀ x : X, x.lams.length + 1 ≤ x.size
  | .mk k t ns a => by
    have h1 := lamsL_len a
    have h2 := lamH_cnt k ns a
    simp only [X.lams, X.size, List.length_append]
    omega
theorem lamsL_len : ∀ l : List X, (lamsL l).length + cnt6 l ≤ sizes l
  | [] => by simp [lamsL, cnt6, sizes]
  | x :: r => by
    have h1 := lams_len x
    have h2 := lamsL_len r
    simp only [lamsL, cnt6, sizes, List.length_append]
    split <;> omega
end

/-- a function in memory: its name, where its needs lie, its term -/
structure FnD where
  s : Str
  b : Nat
  x : X
  an : Option Addr
  cn : Nat
  aa : Option Addr
  ca : Nat
def FnD.cells (d : FnD) : List Value := [St d.s, .slice (some ⟨d.b, 0, none⟩) d.x.names.length d.x.names.length, Kv d.x.kind, St d.x.text, .slice d.an d.x.names.length d.cn, .slice d.aa d.x.parts.length d.ca]
def FnD.fn (d : FnD) : Str × X := (d.s, d.x)
theorem FnD.len (d : FnD) : d.cells.length = 6 := rfl
theorem FnD.one (d : FnD) : ∀ u ∈ d.cells, u.oneCell' = true := fun u hu => by
  simp [FnD.cells] at hu
  rcases hu with rfl | rfl | rfl | rfl | rfl | rfl <;> rfl
theorem ty75 : ElTy 75 78 6 := .of (bytes := 112) (z := .agg #[.string ⟨#[]⟩, .slice none 0 0, .int .i64 0, .string ⟨#[]⟩, .slice none 0 0, .slice none 0 0]) (by kernel_rfl) (by kernel_rfl) (by omega) rfl (by omega)

/-- functions in memory: each has needs of its own, all true -/
structure FnL (D : Nat → Prop) (B : Nat) (w : World) (v : Value) (L : List FnD) : Prop where
  row : RowOf 78 6 FnD.cells B w v L
  nd : (L.map (·.b)).Nodup
  of : ∀ d ∈ L, B ≤ d.b ∧ v.ownBlock ≠ some d.b ∧ Bs w d.b (List.replicate d.x.names.length true)
  rd : ∀ d ∈ L, Nm w D (.slice d.an d.x.names.length d.cn) d.x.names ∧ Row w D (.slice d.aa d.x.parts.length d.ca) d.x.parts
theorem FnL.nil (D : Nat → Prop) (B : Nat) (w : World) : FnL D B w (.slice none 0 0) [] := ⟨RowOf.nil _ _ _ _ _, by simp, by simp, by simp⟩
theorem FnL.grew {D : Nat → Prop} {B : Nat} {w w' : World} {v : Value} {L : List FnD} (h : FnL D B w v L) (k : Grew w w') : FnL D B w' v L :=
  ⟨h.row.grew k, h.nd, fun d hd => ⟨(h.of d hd).1, (h.of d hd).2.1, (h.of d hd).2.2.kept k (fun f => f)⟩, fun d hd => ⟨(h.rd d hd).1.grew k, (h.rd d hd).2.grew k⟩⟩

/-- one more function -/
theorem FnL.app {D : Nat → Prop} {B : Nat} {w : World} {v : Value} {L : List FnD} (h : FnL D B w v L) (hB : B ≤ w.heap.size) (hl : L.length ≤ 900000) {d : FnD} (hnew : ∀ d' ∈ L, d'.b ≠ d.b) (hown : v.ownBlock ≠ some d.b) (hdB : B ≤ d.b) (hbs : Bs w d.b (List.replicate d.x.names.length true))
    (hrd : Nm w D (.slice d.an d.x.names.length d.cn) d.x.names ∧ Row w D (.slice d.aa d.x.parts.length d.ca) d.x.parts) (hD : ∀ b, B ≤ b → D b) (ty : TypeId) :
    ∃ v' w', (Builtin.append_ #[75, 75] ty #[v, .slice (some ⟨w.heap.size, 0, none⟩) 1 1]).run Try.prog (w.alloc (.cells d.cells.toArray 78)) = .ok v' w' ∧ FnL D B w' v' (L ++ [d]) ∧ Fr (fun b => v.ownBlock = some b) w w' ∧ (∀ g, v'.ownBlock = some g → v.ownBlock = some g ∨ w.heap.size ≤ g) ∧ ∃ a m c, v' = .slice a m c := by
  have ga : Grew w (w.alloc (.cells d.cells.toArray 78)) := (Fr.refl _ _).alloc _
  obtain ⟨v', w', e1, e2, e3, e4, e5⟩ := (h.row.grew ga).app ty75 FnD.len (by simp; omega) hl (d := d) (gu := w.heap.size) (heap_alloc_new _ _) d.one ty
  have hf : Fr (fun b => v.ownBlock = some b) w w' := (Grew.any ga).trans e3 (fun _ _ e => e)
  have e4' : ∀ g, v'.ownBlock = some g → v.ownBlock = some g ∨ w.heap.size ≤ g := fun g hg => (e4 g hg).imp id (fun q => by simp at q; omega)
  have hFD : ∀ b, v.ownBlock = some b → D b := fun b e => hD b (h.row.lt e).1
  refine ⟨v', w', e1, ⟨e2, ?_, fun d' hd' => ?_, fun d' hd' => ?_⟩, hf, e4', e5⟩
  · rw [List.map_append, List.nodup_append]
    refine ⟨h.nd, by simp, fun a ha b hb => ?_⟩
    obtain ⟨d', hd', rfl⟩ := List.mem_map.1 ha
    simp at hb
    subst hb
    exact hnew d' hd'
  · rcases List.mem_append.1 hd' with q | q
    · obtain ⟨k1, k2, k3⟩ := h.of d' q
      refine ⟨k1, fun e => ?_, k3.kept hf k2⟩
      rcases e4' _ e with z | z
      · exact k2 z
      · have := lt_of_get k3; omega
    · simp at q
      subst q
      refine ⟨hdB, fun e => ?_, hbs.kept hf hown⟩
      rcases e4' _ e with z | z
      · exact hown z
      · have := lt_of_get hbs; omega
  · rcases List.mem_append.1 hd' with q | q
    · exact ⟨(h.rd d' q).1.kept hf hFD, (h.rd d' q).2.kept hf hFD⟩
    · simp at q
      subst q
      exact ⟨hrd.1.kept hf hFD, hrd.2.kept hf hFD⟩

/-- what functions answers -/
def FnRes (D : Nat → Prop) (B : Nat) (w : World) (v : Value) (L : List FnD) (fs : List (Str × X)) (v' : Value) (w' : World) : Prop :=
  ∃ M, FnL D B w' v' (L ++ M) ∧ M.map FnD.fn = fs ∧ Fr (fun b => v.ownBlock = some b) w w' ∧ ∀ g, v'.ownBlock = some g → v.ownBlock = some g ∨ w.heap.size ≤ g
theorem FnRes.start {D : Nat → Prop} {B : Nat} {w : World} {v : Value} {L : List FnD} (h : FnL D B w v L) : FnRes D B w v L [] v w := ⟨[], by simpa using h, rfl, Fr.refl _ _, fun _ h => .inl h⟩
theorem FnRes.grew {D : Nat → Prop} {B : Nat} {w w2 w' : World} {v v' : Value} {L : List FnD} {fs : List (Str × X)} (h : FnRes D B w v L fs v' w2) (k : Grew w2 w') : FnRes D B w v L fs v' w' := by
  obtain ⟨M, h1, h2, h3, h4⟩ := h
  exact ⟨M, h1.grew k, h2, h3.trans (Grew.any k) (fun _ _ e => e), h4⟩
theorem FnRes.trans {D : Nat → Prop} {B : Nat} {w w1 w2 : World} {v v1 v2 : Value} {L M : List FnD} {fs gs : List (Str × X)} (h3 : Fr (fun b => v.ownBlock = some b) w w1) (hM : M.map FnD.fn = fs) (h4 : ∀ g, v1.ownBlock = some g → v.ownBlock = some g ∨ w.heap.size ≤ g) (k : FnRes D B w1 v1 (L ++ M) gs v2 w2) : FnRes D B w v L (fs ++ gs) v2 w2 := by
  obtain ⟨N, k1, k2, k3, k4⟩ := k
  refine ⟨M ++ N, by rw [← List.append_assoc]; exact k1, by rw [List.map_append, hM, k2], h3.trans k3 (fun i hi e => (h4 i e).resolve_right (by omega)), fun g hg => ?_⟩
  rcases k4 g hg with q | q
  · exact h4 g q
  · have := h3.size; exact .inr (by omega)
def FunPost (D : Nat → Prop) (B : Nat) (w : World) (v : Value) (L : List FnD) (fs : List (Str × X)) (e : Ending) (w' : World) : Prop := ∃ a m c, e = .returned (.slice a m c) ∧ FnRes D B w v L fs (.slice a m c) w'
def FunAt (w0 : World) (av : Option Addr) (l : List X) : Prop :=
  l ≠ [] → ∃ g o, av = some ⟨g, o, none⟩ ∧ ∀ i x, l[i]? = some x → ∃ an cn aa ca, El w0 (fun b => w0.heap.size ≤ b) g (o + i * 4) x an cn aa ca ∧ ∀ w' B v L, Grew w0 w' → w0.heap.size ≤ B → B ≤ w'.heap.size → FnL (fun b => w0.heap.size ≤ b) B w' v L → L.length + x.size ≤ 900000 →
    Calls Try.prog 49 #[.agg #[Kv x.kind, St x.text, .slice an x.names.length cn, .slice aa x.parts.length ca], v] w' (FunPost (fun b => w0.heap.size ≤ b) B w' v L x.lams)

theorem rep_set (n j : Nat) (h : j < n) : (List.replicate j true ++ List.replicate (n - j) false).set j true = List.replicate (j + 1) true ++ List.replicate (n - (j + 1)) false := by
  rw [List.set_append_right _ _ (by simp), List.length_replicate, Nat.sub_self, show n - j = (n - (j + 1)) + 1 by omega, List.replicate_succ, List.set_cons_zero, List.replicate_succ', List.append_assoc]
  rfl

theorem lamH_nine (ns : List Str) (a : List X) : lamH 9 ns a = (ns.zip a).filter (fun p => decide (p.2.kind = 6)) := rfl
theorem lamH_other {k : Int} (h : k ≠ 9) (ns : List Str) (a : List X) : lamH k ns a = [] := by simp [lamH, h]
theorem lam_bound (k : Int) (ns : List Str) {l : List X} {j : Nat} {x : X} (hx : l[j]? = some x) : (lamH k ns l).length + (lamsL (l.take j)).length + x.size ≤ 1 + sizes l := by
  have h1 := lamH_cnt k ns l
  have h2 : cnt6 l + (lamsL (l.take j)).length + x.size ≤ 1 + sizes l := by
    clear h1
    induction l generalizing j with
    | nil => simp at hx
    | cons y r ih =>
      cases j with
      | zero =>
        simp at hx; subst hx
        have h3 := lamsL_len r
        simp only [List.take_zero, lamsL, List.length_nil, cnt6, sizes]
        split <;> omega
      | succ j =>
        have h3 := ih (j := j) (by simpa using hx)
        have h4 := lams_len y
        simp only [List.take_succ_cons, lamsL, List.length_append, cnt6, sizes]
        split <;> omega
  omega
theorem FunRes_len {D : Nat → Prop} {B : Nat} {w : World} {v : Value} {L : List FnD} {fs : List (Str × X)} {v' : Value} {w' : World} (h : FnRes D B w v L fs v' w') : ∃ L', FnL D B w' v' L' ∧ L'.length = L.length + fs.length := by
  obtain ⟨M, h1, h2, -⟩ := h
  exact ⟨_, h1, by rw [List.length_append, ← h2, List.length_map]⟩

set_option maxHeartbeats 8000000 in
set_option maxRecDepth 100000 in
theorem fun_core {w0 : World} {av : Option Addr} {l : List X} {cap : Nat} (H : FunAt w0 av l) (w : World) (B : Nat) (aL : Option Addr) (nL cL : Nat) (L : List FnD) (hw : Grew w0 w) (hB0 : w0.heap.size ≤ B) (hB : B ≤ w.heap.size) (hL : FnL (fun b => w0.heap.size ≤ b) B w (.slice aL nL cL) L) (k : Int) (t : Str) (vn : Value) (ns : List Str)
    (hsz : L.length + (1 + sizes l) ≤ 900000) (hnm : Nm w0 (fun b => w0.heap.size ≤ b) vn ns) (hll : k = 9 → l.length = ns.length + 1) (hsm : ∀ x ∈ l, x.names.length ≤ 900) :
    Calls Try.prog 49 #[.agg #[Kv k, St t, vn, .slice av l.length cap], .slice aL nL cL] w (FunPost (fun b => w0.heap.size ≤ b) B w (.slice aL nL cL) L (lamH k ns l ++ lamsL l)) := by
  obtain ⟨an, cn, rfl, hn1, hn2⟩ := hnm.shape
  replace hn2 : cn ≤ 9223372036854775807 := hn2
  obtain ⟨W1, hW1⟩ : ∃ q : World, q = w.alloc (.cells #[Kv k, St t, .slice an ns.length cn, .slice av l.length cap] 28) := ⟨_, rfl⟩
  have g1 : Grew w W1 := by rw [hW1]; exact (Fr.refl _ _).alloc _
  have hbe : W1.heap[w.heap.size]? = some (.cells #[Kv k, St t, .slice an ns.length cn, .slice av l.length cap] 28 (0, 0)) := by rw [hW1]; exact heap_alloc_new w _
  have e0 := cell_of_get hbe 0
  have e2 := cell_of_get hbe 2
  have HBE := hid hbe
  have HG1 := hid g1
  have HG01 := hid (hw.trans g1 (fun _ _ f => f))
  have HL1 := hid (hL.grew g1)
  have HH := hid H
  have HNM := hid hnm
  have HLL := hid hll
  have hll6 : l.length ≤ 900000 := by have := len_le_sizes l; omega
  have HSZ := hid hsz
  have hw0 := hid hw.size
  have HOWN := hid (show ∀ b, (Value.slice aL nL cL).ownBlock = some b → B ≤ b ∧ b < w.heap.size from fun b e => hL.row.lt e)
  clear H hL hnm hll hw g1 hbe hsz
  go_enter Try.func49, Try.ntmps49
  go_upto_region 1 with (fail)
  rw [← hW1]
  clear hW1
  have HBE2 := hid (cell_of_get HBE.out 2)
  have HBE3 := hid (show W1.cell? ⟨w.heap.size, 3, none⟩ = some (.slice av l.length cap) from cell_of_get HBE.out 3)
  by_cases k9 : k = 9
  case neg =>
    have hk9 : (k == 9) = false := by simpa using k9
    have HRES0 := hid (show FnRes (fun b => w0.heap.size ≤ b) B W1 (.slice aL nL cL) L (lamH k ns l) (.slice aL nL cL) W1 by rw [lamH_other k9]; exact FnRes.start HL1.out)
    clear k9 e2
    have HRES := HRES0
    go_upto_region 15 with (fail)
    clear hk9 e0
    have HF5 := hid (show Fr (fun b => (Value.slice aL nL cL).ownBlock = some b) W1 W1 from by obtain ⟨_, -, -, h3, -⟩ := HRES.out; exact h3)
    have e3 := HF5.out.cell HBE3.out (by show ¬ ((Value.slice aL nL cL).ownBlock = some w.heap.size); intro e; have := (HOWN.out _ e).2; omega)
    go_wp2
    clear e3
    go_loopw [1, 56] (fun lv iv wr => ∃ (j : Nat) (aM : Option Addr) (nM cM : Nat), j ≤ l.length ∧ iv = .int .i64 j ∧ lv = .slice aM nM cM ∧ FnRes (fun b => w0.heap.size ≤ b) B W1 (.slice aL nL cL) L (lamH k ns l ++ lamsL (l.take j)) (.slice aM nM cM) wr) (fun _ iv _ => l.length - (intOf iv).toNat)
    case atStart => exact ⟨0, aL, nL, cL, Nat.zero_le _, rfl, rfl, by simpa [lamsL] using HRES.out⟩
    case round =>
      obtain ⟨j, aM, nM, cM, hj, rfl, rfl, hres⟩ := hrel
      have HRS := hid hres
      by_cases hlt : j < l.length
      · obtain ⟨x, hx⟩ := at_of_lt hlt
        obtain ⟨g, o, rfl, hel⟩ := HH.out (fun e => by rw [e] at hlt; simp at hlt)
        obtain ⟨an3, cn3, aa3, ca3, he, hc⟩ := hel j x hx
        obtain ⟨M, h1, h2, h3, h4⟩ := hres
        have hg0 : Grew w0 wr := HG01.out.trans h3 (fun c hc e => by have := (HOWN.out _ e).1; omega)
        have c0 := hg0.cell he.c0 (fun f => f)
        have c1 := hg0.cell he.c1 (fun f => f)
        have c2 := hg0.cell he.c2 (fun f => f)
        have c3 := hg0.cell he.c3 (fun f => f)
        obtain ⟨W8, hW8⟩ : ∃ q : World, q = wr.alloc (.cells #[Kv x.kind, St x.text, .slice an3 x.names.length cn3, .slice aa3 x.parts.length ca3] 28) := ⟨_, rfl⟩
        have g8 : Grew wr W8 := by rw [hW8]; exact (Fr.refl _ _).alloc _
        have hlb := lam_bound k ns hx
        have hML : M.length = (lamH k ns l).length + (lamsL (l.take j)).length := by rw [← List.length_append, ← h2, List.length_map]
        have hcall := hc W8 B (.slice aM nM cM) (L ++ M) (hg0.trans g8 (fun _ _ f => f)) hB0 (by have := h3.size; have := g8.size; have := HG1.out.size; omega) (h1.grew g8) (by rw [List.length_append]; have := HSZ.out; omega)
        have HTK := hid (lamsL_take hx)
        have HTR := hid (fun (fs : List (Str × X)) (v2 : Value) (w2 : World) (q : FnRes (fun b => w0.heap.size ≤ b) B W8 (.slice aM nM cM) (L ++ M) fs v2 w2) => FnRes.trans (h3.trans (Grew.any g8) (fun _ _ e => e)) h2 h4 q)
        rw [hW8] at hcall
        clear hel he hc hx h1 h2 h3 h4 hg0 g8 hlb hML
        go_wp2_with (go_at_call 49; (with_reducible refine hcall.mono ?_); rintro e w9 ⟨a9, m9, c9, rfl, hres9⟩; clear hcall c0 c1 c2 c3; rw [← hW8] at hres9; have HR9 := hid (HTR.out _ _ _ hres9); clear hres9 hW8)
        go_roundw
        case rel => first | exact ⟨j + 1, a9, m9, c9, by omega, by go_num, rfl, by rw [HTK.out, ← List.append_assoc]; exact HR9.out⟩ | exact ⟨j + 1, by omega, a9, m9, c9, by go_num, rfl, by rw [HTK.out, ← List.append_assoc]; exact HR9.out⟩
        case measure => simp [intOf]; omega
      · obtain rfl : j = l.length := by omega
        rw [List.take_length] at HRS
        clear hres
        go_wp2
        go_ret
        refine ⟨_, _, _, rfl, ?_⟩
        obtain ⟨M, h1, h2, h3, h4⟩ := HRS.out
        exact ⟨M, h1, h2, (Grew.any HG1.out).trans h3 (fun _ _ e => e), fun g hg => (h4 g hg).imp id (fun q => by have := HG1.out.size; omega)⟩
  case pos =>
    subst k9
    have hll := HLL.out rfl
    go_wp2
    clear e0 e2
    go_loopw [1, 18] (fun lv iv wr => ∃ (j : Nat) (aM : Option Addr) (nM cM : Nat), j ≤ ns.length ∧ iv = .int .i64 j ∧ lv = .slice aM nM cM ∧ FnRes (fun b => w0.heap.size ≤ b) B W1 (.slice aL nL cL) L (((ns.zip l).take j).filter (fun p => decide (p.2.kind = 6))) (.slice aM nM cM) wr) (fun _ iv _ => ns.length - (intOf iv).toNat)
    case atStart => exact ⟨0, aL, nL, cL, Nat.zero_le _, rfl, rfl, FnRes.start HL1.out⟩
    case round =>
      obtain ⟨j, aM, nM, cM, hj, rfl, rfl, hres⟩ := hrel
      have HRS := hid hres
      by_cases hlt : j < ns.length
      · obtain ⟨s, hs⟩ := at_of_lt hlt
        obtain ⟨x, hx⟩ := at_of_lt (l := l) (i := j) (by omega)
        obtain ⟨gn, on, cn', e, -, -, hgn, hnel⟩ := HNM.out.row (fun e => by rw [e] at hlt; simp at hlt)
        simp only [Value.slice.injEq] at e
        obtain ⟨rfl, -, rfl⟩ := e
        obtain ⟨g, o, rfl, hel⟩ := HH.out (fun e => by rw [e] at hx; simp at hx)
        obtain ⟨an3, cn3, aa3, ca3, he, -⟩ := hel j x hx
        obtain ⟨M, h1, h2, h3, h4⟩ := hres
        have hg0 : Grew w0 wr := HG01.out.trans h3 (fun c hc e => by have := (HOWN.out _ e).1; omega)
        have n0 := hg0.cell (hnel j s hs) (fun f => f)
        have e3 : wr.cell? ⟨w.heap.size, 3, none⟩ = some (.slice (some ⟨g, o, none⟩) l.length cap) := h3.cell HBE3.out (by show ¬ ((Value.slice aL nL cL).ownBlock = some w.heap.size); intro e; have := (HOWN.out _ e).2; omega)
        have c0 := hg0.cell he.c0 (fun f => f)
        have c1 := hg0.cell he.c1 (fun f => f)
        have c2 := hg0.cell he.c2 (fun f => f)
        have c3 := hg0.cell he.c3 (fun f => f)
        have hjl : (j : Int) < (l.length : Int) := by omega
        have HTK := hid (zip_take_succ hs hx)
        have hxn := hsm x (List.mem_of_getElem? hx)
        obtain ⟨W8, hW8⟩ : ∃ q : World, q = wr.alloc (.cells #[Kv x.kind, St x.text, .slice an3 x.names.length cn3, .slice aa3 x.parts.length ca3] 28) := ⟨_, rfl⟩
        have g8 : Grew wr W8 := by rw [hW8]; exact (Fr.refl _ _).alloc _
        have hb8 : W8.heap[wr.heap.size]? = some (.cells #[Kv x.kind, St x.text, .slice an3 x.names.length cn3, .slice aa3 x.parts.length ca3] 28 (0, 0)) := by rw [hW8]; exact heap_alloc_new wr _
        have hs8 : W8.heap.size = wr.heap.size + 1 := by rw [hW8]; simp
        have q0 := cell_of_get hb8 0
        have HB8 := hid hb8
        have HS8 := hid hs8
        have HG8 := hid g8
        have HNX := hid ((he.nm.grew (hg0.trans g8 (fun _ _ f => f))))
        have HRX := hid ((he.row.grew (hg0.trans g8 (fun _ _ f => f))))
        have HFM := hid (And.intro h2 (And.intro h3 h4))
        have HLM := hid (h1.grew g8)
        have HBW := hid (show B ≤ wr.heap.size by have := h3.size; have := HG1.out.size; omega)
        clear hel he hx hs h1 h2 h3 h4 hg0 g8 hb8 hs8 hnel
        go_upto_region 6 with (fail)
        rw [← hW8]
        clear hW8 c0 c1 c2 c3 n0 e3
        by_cases h6 : x.kind = 6
        · rw [h6] at q0
          have q2 := cell_of_get HB8.out 2
          have hmk := fun w => make_bools x.names.length (by omega) w
          have HTQ := hid (show ((ns.zip l).take (j + 1)).filter (fun p => decide (p.2.kind = 6)) = ((ns.zip l).take j).filter (fun p => decide (p.2.kind = 6)) ++ [(s, x)] by rw [HTK.out, List.filter_append]; simp [h6])
          obtain ⟨W9, hW9⟩ : ∃ q : World, q = W8.alloc (.cells (madeCells #[.bool false] x.names.length) 4) := ⟨_, rfl⟩
          have g89 : Grew W8 W9 := by rw [hW9]; exact (Fr.refl _ _).alloc _
          have hbs := Bs.new W8 x.names.length
          rw [← hW9] at hbs
          have HBS := hid hbs
          have HG89 := hid g89
          have HS9 := hid (show W9.heap.size = W8.heap.size + 1 by rw [hW9]; simp)
          clear hbs g89 h6
          go_upto_region 8 with (fail)
          rw [← hW9]
          clear hW9 hmk q2 q0
          go_wp2
          obtain ⟨gb, hgb⟩ : ∃ n, n = W8.heap.size := ⟨_, rfl⟩
          rw [← hgb] at HBS HS9 ⊢
          have HGB := hid hgb
          clear hgb
          obtain ⟨wo, rfl⟩ : ∃ q : World, q = wr := ⟨_, rfl⟩
          go_loopw [37] (fun iv wq => ∃ (j2 : Nat), j2 ≤ x.names.length ∧ iv = .int .i64 j2 ∧ Bs wq gb (List.replicate j2 true ++ List.replicate (x.names.length - j2) false) ∧ Fr (fun c => c = gb) W9 wq) (fun iv _ => x.names.length - (intOf iv).toNat)
          case atStart => exact ⟨0, Nat.zero_le _, rfl, by simpa using HBS.out, Fr.refl _ _⟩
          case round =>
            obtain ⟨j2, hj2, rfl, hbs, hfr⟩ := hrel
            have HFR := hid hfr
            by_cases hlt2 : j2 < x.names.length
            · have bq := hbs.cell (i := j2) (q := false) (by rw [List.getElem?_append_right (by simp), List.length_replicate, Nat.sub_self, List.getElem?_replicate, if_pos (by omega)])
              have fq := frozen_of_get hbs j2
              have HB2 := hid (show Bs (wr.setCell ⟨gb, j2, none⟩ (.bool true)) gb (List.replicate (j2 + 1) true ++ List.replicate (x.names.length - (j2 + 1)) false) by rw [← rep_set _ _ hlt2]; exact hbs.set j2 true)
              have HF2 := hid (hfr.trans ((Fr.refl (fun c => c = gb) wr).setCell (p := ⟨gb, j2, none⟩) (fun _ => rfl) (.bool true)) (fun _ _ e => e))
              clear hbs hfr
              go_wp2
              go_roundw
              case rel => exact ⟨j2 + 1, by omega, by go_num, HB2.out, HF2.out⟩
              case measure => simp [intOf]; omega
            · obtain rfl : j2 = x.names.length := by omega
              rw [Nat.sub_self, List.replicate_zero, List.append_nil] at hbs
              have hgb := HGB.out
              have hs8 := HS8.out
              have gq : Grew W8 wr := HG89.out.trans hfr (fun c hc e => by omega)
              have hq8 := gq.get HB8.out (fun f => f)
              obtain ⟨q0, q1⟩ := And.intro (cell_of_get hq8 0) (cell_of_get hq8 1)
              obtain ⟨q2, q3⟩ := And.intro (cell_of_get hq8 2) (cell_of_get hq8 3)
              have hlm := HLM.out
              have hsz := HSZ.out
              have hML : (L ++ M).length ≤ 900000 := by
                have h1 := lamsL_len l
                have h2 : M.length ≤ (lamH 9 ns l).length := by
                  rw [← List.length_map (f := FnD.fn), HFM.out.1, lamH_nine]
                  exact List.Sublist.length_le (List.Sublist.filter _ (List.take_sublist _ _))
                have h3 := lamH_cnt 9 ns l
                rw [List.length_append]; omega
              obtain ⟨v9, w9, hrun, hfn9, hf9, ho9, a9, m9, c9, rfl⟩ := (hlm.grew gq).app (d := ⟨s, gb, x, an3, cn3, aa3, ca3⟩) (by have := HBW.out; have := gq.size; omega) hML (fun d' hd' => by have := lt_of_get (hlm.of d' hd').2.2; show d'.b ≠ gb; omega)
                (fun e => by have := (hlm.row.lt e).2; simp only at this; omega) (show B ≤ gb by have := HBW.out; omega) hbs ⟨HNX.out.grew gq, HRX.out.grew gq⟩ (fun b hb => by omega) 75
              have HRUN := hid (show (Builtin.append_ #[75, 75] 75 #[.slice aM nM cM, .slice (some ⟨wr.heap.size, 0, none⟩) 1 1]).run Try.prog (wr.alloc (.cells #[St s, .slice (some ⟨gb, 0, none⟩) x.names.length x.names.length, Kv x.kind, St x.text, .slice an3 x.names.length cn3, .slice aa3 x.parts.length ca3] 78)) = .ok (.slice a9 m9 c9) w9 from hrun)
              have HR9 := hid (show FnRes (fun b => w0.heap.size ≤ b) B W1 (.slice aL nL cL) L (((ns.zip l).take (j + 1)).filter (fun p => decide (p.2.kind = 6))) (.slice a9 m9 c9) w9 from by
                rw [HTQ.out]
                refine FnRes.trans (w1 := wr) (v1 := .slice aM nM cM) ((HFM.out.2.1.trans (Grew.any HG8.out) (fun _ _ e => e)).trans (Grew.any gq) (fun _ _ e => e)) HFM.out.1 HFM.out.2.2 ⟨[_], hfn9, rfl, hf9, ho9⟩)
              clear hbs hfr hgb hs8 gq hq8 hlm hsz hML hrun hfn9 hf9 ho9
              go_wp2_with (at_builtin; refine wpList_app rfl rfl rfl rfl HRUN.out ?_; clear HRUN)
              go_roundw
              case rel => first | exact ⟨j + 1, a9, m9, c9, by omega, by go_num, rfl, HR9.out⟩ | exact ⟨j + 1, by omega, a9, m9, c9, by go_num, rfl, HR9.out⟩
              case measure => simp [intOf]; omega
        · have HR9 := hid (show FnRes (fun b => w0.heap.size ≤ b) B W1 (.slice aL nL cL) L (((ns.zip l).take (j + 1)).filter (fun p => decide (p.2.kind = 6))) (.slice aM nM cM) W8 by
            rw [HTK.out, List.filter_append]
            simpa [h6] using HRS.out.grew HG8.out)
          have h6b : (x.kind == 6) = false := by simpa using h6
          clear h6
          go_wp2
          go_roundw
          case rel => first | exact ⟨j + 1, aM, nM, cM, by omega, by go_num, rfl, HR9.out⟩ | exact ⟨j + 1, by omega, aM, nM, cM, by go_num, rfl, HR9.out⟩
          case measure => simp [intOf]; omega
      · obtain rfl : j = ns.length := by omega
        have HRES := hid (show FnRes (fun b => w0.heap.size ≤ b) B W1 (.slice aL nL cL) L (lamH 9 ns l) (.slice aM nM cM) wr from by
          rw [lamH_nine]
          have : (ns.zip l).take ns.length = ns.zip l := List.take_of_length_le (by rw [List.length_zip]; omega)
          rw [this] at hres
          exact hres)
        obtain ⟨W5, rfl⟩ : ∃ q : World, q = wr := ⟨_, rfl⟩
        clear hres HRS hll
        go_upto_region 15 with (fail)
        have HF5 := hid (show Fr (fun b => (Value.slice aL nL cL).ownBlock = some b) W1 W5 from by obtain ⟨_, -, -, h3, -⟩ := HRES.out; exact h3)
        have e3 := HF5.out.cell HBE3.out (by show ¬ ((Value.slice aL nL cL).ownBlock = some w.heap.size); intro e; have := (HOWN.out _ e).2; omega)
        go_wp2
        clear e3
        go_loopw [1, 56] (fun lv iv wr => ∃ (j : Nat) (aM : Option Addr) (nM cM : Nat), j ≤ l.length ∧ iv = .int .i64 j ∧ lv = .slice aM nM cM ∧ FnRes (fun b => w0.heap.size ≤ b) B W1 (.slice aL nL cL) L (lamH 9 ns l ++ lamsL (l.take j)) (.slice aM nM cM) wr) (fun _ iv _ => l.length - (intOf iv).toNat)
        case atStart => exact ⟨0, aM, nM, cM, Nat.zero_le _, rfl, rfl, by simpa [lamsL] using HRES.out⟩
        case round =>
          obtain ⟨j, aM, nM, cM, hj, rfl, rfl, hres⟩ := hrel
          have HRS := hid hres
          by_cases hlt : j < l.length
          · obtain ⟨x, hx⟩ := at_of_lt hlt
            obtain ⟨g, o, rfl, hel⟩ := HH.out (fun e => by rw [e] at hlt; simp at hlt)
            obtain ⟨an3, cn3, aa3, ca3, he, hc⟩ := hel j x hx
            obtain ⟨M, h1, h2, h3, h4⟩ := hres
            have hg0 : Grew w0 wr := HG01.out.trans h3 (fun c hc e => by have := (HOWN.out _ e).1; omega)
            have c0 := hg0.cell he.c0 (fun f => f)
            have c1 := hg0.cell he.c1 (fun f => f)
            have c2 := hg0.cell he.c2 (fun f => f)
            have c3 := hg0.cell he.c3 (fun f => f)
            obtain ⟨W8, hW8⟩ : ∃ q : World, q = wr.alloc (.cells #[Kv x.kind, St x.text, .slice an3 x.names.length cn3, .slice aa3 x.parts.length ca3] 28) := ⟨_, rfl⟩
            have g8 : Grew wr W8 := by rw [hW8]; exact (Fr.refl _ _).alloc _
            have hlb := lam_bound 9 ns hx
            have hML : M.length = (lamH 9 ns l).length + (lamsL (l.take j)).length := by rw [← List.length_append, ← h2, List.length_map]
            have hcall := hc W8 B (.slice aM nM cM) (L ++ M) (hg0.trans g8 (fun _ _ f => f)) hB0 (by have := h3.size; have := g8.size; have := HG1.out.size; omega) (h1.grew g8) (by rw [List.length_append]; have := HSZ.out; omega)
            have HTK := hid (lamsL_take hx)
            have HTR := hid (fun (fs : List (Str × X)) (v2 : Value) (w2 : World) (q : FnRes (fun b => w0.heap.size ≤ b) B W8 (.slice aM nM cM) (L ++ M) fs v2 w2) => FnRes.trans (h3.trans (Grew.any g8) (fun _ _ e => e)) h2 h4 q)
            rw [hW8] at hcall
            clear hel he hc hx h1 h2 h3 h4 hg0 g8 hlb hML
            go_wp2_with (go_at_call 49; (with_reducible refine hcall.mono ?_); rintro e w9 ⟨a9, m9, c9, rfl, hres9⟩; clear hcall c0 c1 c2 c3; rw [← hW8] at hres9; have HR9 := hid (HTR.out _ _ _ hres9); clear hres9 hW8)
            go_roundw
            case rel => first | exact ⟨j + 1, a9, m9, c9, by omega, by go_num, rfl, by rw [HTK.out, ← List.append_assoc]; exact HR9.out⟩ | exact ⟨j + 1, by omega, a9, m9, c9, by go_num, rfl, by rw [HTK.out, ← List.append_assoc]; exact HR9.out⟩
            case measure => simp [intOf]; omega
          · obtain rfl : j = l.length := by omega
            rw [List.take_length] at HRS
            clear hres
            go_wp2
            go_ret
            refine ⟨_, _, _, rfl, ?_⟩
            obtain ⟨M, h1, h2, h3, h4⟩ := HRS.out
            exact ⟨M, h1, h2, (Grew.any HG1.out).trans h3 (fun _ _ e => e), fun g hg => (h4 g hg).imp id (fun q => by have := HG1.out.size; omega)⟩

theorem fun_row {w0 : World} {v : Value} {l : List X} (h : Row w0 (fun b => w0.heap.size ≤ b) v l) : (∀ x ∈ l, So x) → (∀ x ∈ l, Smn 900 x) → ∀ (w : World) (B : Nat) (vL : Value) (L : List FnD), Grew w0 w → w0.heap.size ≤ B → B ≤ w.heap.size → FnL (fun b => w0.heap.size ≤ b) B w vL L → ∀ (k : Int) (t : Str) (vn : Value) (ns : List Str),
    L.length + (1 + sizes l) ≤ 900000 → Nm w0 (fun b => w0.heap.size ≤ b) vn ns → (k = 9 → l.length = ns.length + 1) →
    Calls Try.prog 49 #[.agg #[Kv k, St t, vn, v], vL] w (FunPost (fun b => w0.heap.size ≤ b) B w vL L (X.mk k t ns l).lams) := by
  refine Row.ind (P := fun v l => (∀ x ∈ l, So x) → (∀ x ∈ l, Smn 900 x) → ∀ (w : World) (B : Nat) (vL : Value) (L : List FnD), Grew w0 w → w0.heap.size ≤ B → B ≤ w.heap.size → FnL (fun b => w0.heap.size ≤ b) B w vL L → ∀ (k : Int) (t : Str) (vn : Value) (ns : List Str),
    L.length + (1 + sizes l) ≤ 900000 → Nm w0 (fun b => w0.heap.size ≤ b) vn ns → (k = 9 → l.length = ns.length + 1) →
    Calls Try.prog 49 #[.agg #[Kv k, St t, vn, v], vL] w (FunPost (fun b => w0.heap.size ≤ b) B w vL L (X.mk k t ns l).lams)) ?_ ?_ h
  · intro ad cap _ _ w B vL L hw hB0 hB hL k t vn ns hsz hn h9
    obtain ⟨aL, cL, rfl, -⟩ := hL.row.shape
    exact fun_core (l := []) (fun e => absurd rfl e) w B aL _ cL L hw hB0 hB hL k t vn ns hsz hn h9 (by simp)
  · intro l g o cap _ _ _ H hs hm w B vL L hw hB0 hB hL k t vn ns hsz hn h9
    obtain ⟨aL, cL, rfl, -⟩ := hL.row.shape
    refine fun_core (fun _ => ⟨g, o, rfl, fun i x hx => ?_⟩) w B aL _ cL L hw hB0 hB hL k t vn ns hsz hn h9 (fun x hx => by have := hm x hx; cases this with | mk k t ns a ht hn ha h => exact hn)
    obtain ⟨an, cn, aa, ca, he, hc⟩ := H i x hx
    refine ⟨an, cn, aa, ca, he, fun w2 B2 v2 L2 hg hB2 hB3 hL2 hsz2 => ?_⟩
    have hso := hs x (List.mem_of_getElem? hx)
    have hsm := hm x (List.mem_of_getElem? hx)
    cases hso with
    | mk k t ns a h7 h8 h9 ha h =>
      cases hsm with
      | mk _ _ _ _ _ _ _ h' => exact hc h h' w2 B2 v2 L2 hg hB2 hB3 hL2 k t _ ns (show L2.length + (1 + sizes a) ≤ 900000 by simpa [X.size] using hsz2) he.nm h9
/-- functions -/
theorem fun_any {w0 : World} {e : Value} {x : X} (h : Rd w0 (fun _ => False) e x) (hx : So x) (hm : Smn 900 x) (hsz : x.size ≤ 900000) (w : World) (hw : Grew w0 w) : Calls Try.prog 49 #[e, .slice none 0 0] w (FunPost (fun b => w0.heap.size ≤ b) w.heap.size w (.slice none 0 0) [] x.lams) := by
  obtain ⟨vn, va, rfl, hn, hr⟩ := h.mono (E := fun b => w0.heap.size ≤ b) (fun b hb q => by omega)
  cases hx with
  | mk k t ns a h7 h8 h9 ha hso =>
    cases hm with
    | mk _ _ _ _ _ _ _ h' => exact fun_row hr hso h' w w.heap.size _ [] hw hw.size (Nat.le_refl _) (FnL.nil _ _ _) k t vn ns (show 0 + (1 + sizes a) ≤ 900000 by simpa [X.size] using hsz) hn h9
end Go.Proofs.Ytddcfnjmppijjaa

/-! strict.Needs. -/
namespace Go.Proofs.Ytddcfnjmppijjaa
open Go.RowKit

theorem ty33 : ElTy 33 42 2 := .of (bytes := 40) (z := .agg #[.string ⟨#[]⟩, .slice none 0 0]) (by kernel_rfl) (by kernel_rfl) (by omega) rfl (by omega)

/-- all of a row put behind an empty one -/
theorem RowOf.all {α : Type} {T e k B : Nat} {f : α → List Value} {w : World} {v : Value} {L : List α} (h : RowOf e k f B w v L) (hne : L ≠ []) (ht : ElTy T e k) (hf : ∀ d, (f d).length = k) (h1 : ∀ d, ∀ u ∈ f d, u.oneCell' = true) (hl : L.length ≤ 900000) (ty : TypeId) :
    ∃ v' w', (Builtin.append_ #[T, T] ty #[.slice (some ⟨w.heap.size, 0, none⟩) 0 0, v]).run Try.prog (w.alloc (.cells #[] e)) = .ok v' w' ∧ RowOf e k f w.heap.size w' v' L ∧ Grew w w' ∧ ∃ a m c, v' = .slice a m c := by
  obtain ⟨i, z, hT, hi, hz, hs, hb, hzc, hk⟩ := ht.ex
  obtain ⟨g, cap, rfl, h3, h4, -, -, hc⟩ := h.at hf hne
  have ga : Grew w (w.alloc (.cells #[] e)) := (Fr.refl _ _).alloc _
  have h0 : (w.alloc (.cells #[] e)).ownsRow w.heap.size e k (.slice (some ⟨w.heap.size, 0, none⟩) 0 0) 0 [] := ⟨by simp, .inr ⟨w.heap.size, 0, #[], rfl, Nat.le_refl _, heap_alloc_new _ _, Nat.le_refl _, by simp [maxLen], by simp, by simp⟩⟩
  obtain ⟨v', w', hr, ho, hfr, hg⟩ := app_gen hT hi hz hs rfl hzc hk h0 (by simp) ⟨g, 0, none⟩ L.length cap (L.flatMap f) (flat_len hf L) (fun j u hj => by
    rw [addr_at, Nat.zero_add]
    obtain ⟨hjl, -⟩ := List.getElem?_eq_some_iff.1 hj
    rw [flat_len hf L] at hjl
    have hq : j / k < L.length := Nat.div_lt_of_lt_mul (by rw [Nat.mul_comm]; exact hjl)
    have hjk : j / k * k + j % k = j := by rw [Nat.mul_comm]; exact Nat.div_add_mod j k
    obtain ⟨d, hd⟩ := at_of_lt hq
    have e1 := flat_get hf hd (Nat.mod_lt j hk)
    rw [hjk, hj] at e1
    have e2 := hc _ d hd (j % k) (Nat.mod_lt j hk)
    rw [hjk, ← e1] at e2
    exact ga.cell e2 (fun f => f)) (fun u hu => by obtain ⟨d, -, hd⟩ := List.mem_flatMap.1 hu; exact h1 d u hd) (by omega) hb ty
  have ho' : RowOf e k f w.heap.size w' v' L := by
    unfold RowOf
    simpa using ho
  obtain ⟨a, c, e1, -⟩ := ho'.shape
  exact ⟨v', w', hr, ho', ga.trans hfr (fun c hc e => by simp [Value.ownBlock] at e; omega), a, _, c, e1⟩

set_option maxHeartbeats 4000000 in
set_option maxRecDepth 100000 in
/-- slices.Clone of needs -/
theorem clone_needs {B : Nat} {w : World} {v : Value} {L : List NdD} {nl : Ned} (h : NS 42 B w v L nl) (hB : B ≤ w.heap.size) (hl : L.length ≤ 900000) : Calls Try.prog 51 #[v] w fun e w' => ∃ a m c, e = .returned (.slice a m c) ∧ NS 42 B w' (.slice a m c) L nl ∧ Grew w w' := by
  have hq := fun (a : Option Addr) (n c : Nat) => Lib.run_eql_slice_nil (P := Try.prog) w 33 42 a n c 0 0 (by kernel_rfl)
  by_cases hne : L = []
  · obtain ⟨a, c, rfl, h1, h2⟩ := h.row.shape
    have HH := hid h
    rcases h.row.2 with ⟨e1, -⟩ | ⟨g, cap, cur, e1, hgB, hgg, hh3, hh4, hh5, hh6⟩
    · simp only [Value.slice.injEq] at e1
      obtain ⟨rfl, -, rfl⟩ := e1
      subst hne
      clear h h1 h2
      go_enter Try.func51, Try.ntmps51
      go_wp2
      go_ret
      exact ⟨_, _, _, rfl, HH.out, Fr.refl _ _⟩
    · simp only [Value.slice.injEq] at e1
      obtain ⟨rfl, -, rfl⟩ := e1
      subst hne
      obtain ⟨i, z, hT, hi, hz, hs, hb, hzc, hk⟩ := ty33.ex
      have ga : Grew w (w.alloc (.cells #[] 42)) := (Fr.refl _ _).alloc _
      have h0 : (w.alloc (.cells #[] 42)).ownsRow w.heap.size 42 2 (.slice (some ⟨w.heap.size, 0, none⟩) 0 0) 0 [] := ⟨by simp, .inr ⟨w.heap.size, 0, #[], rfl, Nat.le_refl _, heap_alloc_new _ _, Nat.le_refl _, by simp [maxLen], by simp, by simp⟩⟩
      obtain ⟨v', w', hr, ho, hfr, hg⟩ := app_gen hT hi hz hs rfl hzc hk h0 (by simp) ⟨g, 0, none⟩ 0 c [] (by simp) (fun j u hj => by simp at hj) (fun u hu => by simp at hu) (by omega) hb 33
      have ho' : RowOf 42 2 NdD.cells w.heap.size w' v' ([] : List NdD) := by unfold RowOf; simpa using ho
      obtain ⟨a2, c2, rfl, -⟩ := ho'.shape
      have HGR := hid (show Grew w w' from ga.trans hfr (fun c hc e => by simp [Value.ownBlock] at e; omega))
      have HRW := hid ho'
      have HRUN := hid hr
      have HLN := hid HH.out.len
      clear h h1 h2 hr ho ho' hfr hg h0 ga hgg hh6 hh5 hh3
      go_enter Try.func51, Try.ntmps51
      go_wp2_with (at_builtin; refine wpList_app rfl rfl rfl rfl HRUN.out ?_; clear HRUN)
      go_ret
      exact ⟨_, _, _, rfl, ⟨HRW.out.mono hB, HLN.out, by simp, by simp, by simp⟩, HGR.out⟩
  · obtain ⟨v', w', hr, ho, hg, a, m, c, rfl⟩ := h.row.all hne ty33 NdD.len NdD.one hl 33
    obtain ⟨g, cap, rfl, h3, h4, -⟩ := h.row.at NdD.len hne
    have HH := hid h
    have HRUN := hid hr
    have HRW := hid ho
    have HGR := hid hg
    clear h hr ho hg h3 h4
    go_enter Try.func51, Try.ntmps51
    go_wp2_with (at_builtin; refine wpList_app rfl rfl rfl rfl HRUN.out ?_; clear HRUN)
    go_ret
    refine ⟨_, _, _, rfl, ⟨HRW.out.mono hB, HH.out.len, (HH.out.grew HGR.out).el, fun i d hd g' hg' e => ?_, HH.out.sep⟩, HGR.out⟩
    obtain ⟨bs, -, -, h3⟩ := HH.out.el i d hd
    have h1 := (h3.lt hg').2
    have h2 := (HRW.out.lt e).1
    omega
end Go.Proofs.Ytddcfnjmppijjaa

/-! strict.Needs. -/
namespace Go.Proofs.Ytddcfnjmppijjaa
open Go.RowKit

/-- each function has a body -/
inductive Fo : X → Prop
  | mk (k : Int) (t : Str) (ns : List Str) (a : List X) (h6 : k = 6 → a ≠ []) (h : ∀ x ∈ a, Fo x) : Fo (.mk k t ns a)
theorem good_fo {S : List Str} {x : X} (h : Good S x) : Fo x := by
  induction h with
  | int S t ht => exact .mk _ _ _ _ (by simp) (by simp)
  | bool S t ht => exact .mk _ _ _ _ (by simp) (by simp)
  | nil S => exact .mk _ _ _ _ (by simp) (by simp)
  | sym S => exact .mk _ _ _ _ (by simp) (by simp)
  | var S s hs => exact .mk _ _ _ _ (by simp) (by simp)
  | lam S ns x h0 h1 h2 h3 hx ih => exact .mk _ _ _ _ (by simp) (by simpa using ih)
  | app S a h1 h2 ha ih => exact .mk _ _ _ _ (by simp) (fun x hx => ih x hx)
  | iff S a h1 ha ih => exact .mk _ _ _ _ (by simp) (fun x hx => ih x hx)
  | lets S ns a h0 h1 h2 h3 hl ha ih => exact .mk _ _ _ _ (by simp) (fun x hx => ih x hx)
  | prim S t a ht ha ih => exact .mk _ _ _ _ (by simp) (fun x hx => ih x hx)
mutual
theorem lams_all {P : X → Prop} (hP : ∀ k t ns a, P (.mk k t ns a) → ∀ y ∈ a, P y) : ∀ x : X, P x → ∀ f ∈ x.lams, P f.2 ∧ f.2.kind = 6
  | .mk k t ns a, h, f, hf => by
    simp only [X.lams, List.mem_append] at hf
    rcases hf with q | q
    · unfold lamH at q
      split at q
      · obtain ⟨h1, h2⟩ := List.mem_filter.1 q
        exact ⟨hP k t ns a h _ (List.of_mem_zip h1).2, by simpa using h2⟩
      · simp at q
    · exact lamsL_all hP a (hP k t ns a h) f q
theorem lamsL_all {P : X → Prop} (hP : ∀ k t ns a, P (.mk k t ns a) → ∀ y ∈ a, P y) : ∀ l : List X, (∀ x ∈ l, P x) → ∀ f ∈ lamsL l, P f.2 ∧ f.2.kind = 6
  | [], _, f, hf => by simp [lamsL] at hf
  | x :: r, h, f, hf => by
    simp only [lamsL, List.mem_append] at hf
    rcases hf with q | q
    · exact lams_all hP x (h x (by simp)) f q
    · exact lamsL_all hP r (fun y hy => h y (by simp [hy])) f q
end
/-- what is asked of a term of which the needs are reckoned -/
def Ne (x : X) : Prop := So x ∧ Smn 900 x ∧ Fo x
theorem Ne.parts : ∀ k t ns a, Ne (.mk k t ns a) → ∀ y ∈ a, Ne y := fun k t ns a ⟨h1, h2, h3⟩ y hy => by
  cases h1 with | mk _ _ _ _ _ _ _ _ h1 => cases h2 with | mk _ _ _ _ _ _ _ h2 => cases h3 with | mk _ _ _ _ _ h3 => exact ⟨h1 y hy, h2 y hy, h3 y hy⟩
theorem Ne.body {x : X} (h : Ne x) (hk : x.kind = 6) : ∃ b r, x.parts = b :: r ∧ bod x = b ∧ Ne b := by
  cases x with
  | mk k t ns a =>
    have h3 := h.2.2
    cases h3 with
    | mk _ _ _ _ h6 _ =>
      cases a with
      | nil => exact absurd rfl (h6 hk)
      | cons b r => exact ⟨b, r, rfl, rfl, Ne.parts k t ns (b :: r) h b (by simp)⟩

/-- a function's need -/
def FnD.nd (d : FnD) : NdD := ⟨d.s, d.x.names.length, some ⟨d.b, 0, none⟩, d.x.names.length⟩
theorem ini_of {F : List FnD} {fs : List (Str × X)} (h : F.map FnD.fn = fs) : ini fs = F.map (fun d => (d.s, List.replicate d.x.names.length true)) := by
  rw [← h]
  simp [ini, FnD.fn]

theorem rb_of_bs {B : Nat} {w : World} {b : Nat} {bs : List Bool} (h : Bs w b bs) (hB : B ≤ b) (hl : bs.length ≤ 1000) : Rb B w (.slice (some ⟨b, 0, none⟩) bs.length bs.length) bs :=
  ⟨by simp, .inr ⟨b, bs.length, _, rfl, hB, h, Nat.le_refl _, by simp [maxLen]; omega, by simp, List.take_of_length_le (by simp)⟩⟩

/-- what a pass writes -/
def OB (F : List FnD) : Nat → Prop := fun b => ∃ d ∈ F, d.b = b

theorem set_self {nl : Ned} {i : Nat} {n : Str × List Bool} (h : nl[i]? = some n) : nl.set i n = nl := by
  induction nl generalizing i with
  | nil => simp at h
  | cons m r ih =>
    cases i with
    | zero => simp at h; subst h; rfl
    | succ i => simp [ih (by simpa using h)]
open Classical in
theorem nxt_keep {d : DS} {ns : List Str} {bs : List Bool} {k : Nat} {s : Str} {b : Bool} (hs : ns[k]? = some s) (hb : bs[k]? = some b) (h : b = false ∨ d.all ∨ d.mem s) : (nxt d ns bs)[k]? = some b := by
  rw [nxt_at d hs hb]
  cases b
  · rfl
  · rw [decide_eq_true (h.resolve_left (by simp))]; rfl
open Classical in
theorem nxt_drop {d : DS} {ns : List Str} {bs : List Bool} {k : Nat} {s : Str} {b : Bool} (hs : ns[k]? = some s) (hb : bs[k]? = some b) (h : ¬ (d.all ∨ d.mem s)) : (nxt d ns bs)[k]? = some false := by
  rw [nxt_at d hs hb, decide_eq_false h, Bool.and_false]
/-- how far a pass has come -/
structure PS (e B : Nat) (O : Nat → Prop) (W3 : World) (vN : Value) (L : List NdD) (nl0 : Ned) (ag : Bool) (nl : Ned) (wr : World) : Prop where
  ns : NS e B wr vN L nl
  fr : Fr O W3 wr
  le : tot nl ≤ tot nl0
  lt : ag = true → tot nl < tot nl0
  eq : ag = false → nl = nl0
theorem PS.grew {e B : Nat} {O : Nat → Prop} {W3 : World} {vN : Value} {L : List NdD} {nl0 : Ned} {ag : Bool} {nl : Ned} {wr w' : World} (h : PS e B O W3 vN L nl0 ag nl wr) (k : Grew wr w') : PS e B O W3 vN L nl0 ag nl w' :=
  ⟨h.ns.grew k, h.fr.trans (Grew.any k) (fun _ _ e => e), h.le, h.lt, h.eq⟩
/-- what Needs answers -/
def NdPost (e : Nat) (w : World) (x : X) (r : Ending) (w' : World) : Prop :=
  ∃ a m c L nl, r = .returned (.slice a m c) ∧ NS e w.heap.size w' (.slice a m c) L nl ∧ Run x.lams nl ∧ pas x.lams nl = nl ∧ Grew w w'

theorem stp_at {F : List (Str × X)} {nl : Ned} {i : Nat} {f : Str × X} {n : Str × List Bool} (hf : F[i]? = some f) (hn : nl[i]? = some n) : stp F nl i = nl.set i (n.1, nxt (dem nl (bod f.2)) f.2.names n.2) := by
  unfold stp
  rw [hf, hn]
theorem pasTo_names (F : List (Str × X)) (nl : Ned) (j : Nat) : LeN (pasTo F nl j) nl := pasTo_le F nl j

set_option maxHeartbeats 16000000 in
set_option maxRecDepth 100000 in
/-- Needs -/
theorem needs_any {w : World} {e : Value} {x : X} (h : Rd w (fun _ => False) e x) (hx : Ne x) (hsz : x.size ≤ 400000) : Calls Try.prog 21 #[e] w (NdPost 42 w x) := by
  obtain ⟨vn, va, rfl, hn, hr⟩ := h
  obtain ⟨an, cn, rfl, -⟩ := hn.shape
  obtain ⟨aa, ca, rfl, -⟩ := hr.shape
  obtain ⟨W1, hW1⟩ : ∃ q : World, q = w.alloc (.cells #[Kv x.kind, St x.text, .slice an x.names.length cn, .slice aa x.parts.length ca] 28) := ⟨_, rfl⟩
  have g1 : Grew w W1 := by rw [hW1]; exact (Fr.refl _ _).alloc _
  have hs1 : W1.heap.size = w.heap.size + 1 := by rw [hW1]; simp
  have hbe : W1.heap[w.heap.size]? = some (.cells #[Kv x.kind, St x.text, .slice an x.names.length cn, .slice aa x.parts.length ca] 28 (0, 0)) := by rw [hW1]; exact heap_alloc_new w _
  obtain ⟨c0, c1⟩ := And.intro (cell_of_get hbe 0) (cell_of_get hbe 1)
  obtain ⟨c2, c3⟩ := And.intro (cell_of_get hbe 2) (cell_of_get hbe 3)
  have hcall := fun_any (show Rd w (fun _ => False) _ x from ⟨_, _, rfl, hn, hr⟩) hx.1 hx.2.1 (by omega) W1 g1
  have HG1 := hid g1
  have HS1 := hid hs1
  have HX := hid hx
  clear hn hr g1 hbe hs1
  go_enter Try.func21, Try.ntmps21
  go_upto_region 1 with (fail)
  rw [← hW1]
  clear hW1
  go_upto_region 2 with (go_at_call 49; (with_reducible refine hcall.mono ?_); rintro e w2 ⟨aF, mF, cF, rfl, hres⟩; clear hcall c0 c1 c2 c3)
  obtain ⟨F, hfl, hfs, hfr, -⟩ := hres
  rw [List.nil_append] at hfl
  have hg12 : Grew W1 w2 := hfr.mono (fun i _ e => by cases e)
  have HFL := hid hfl
  have HFS := hid hfs
  have HG12 := hid hg12
  have hFlen : F.length ≤ 400000 := by
    have h1 := lams_len x
    rw [← hfs, List.length_map] at h1; omega
  have HGW2 := hid (HG1.out.trans hg12 (fun _ _ f => f))
  have HS2 := hid hg12.size
  obtain ⟨aF', cF', eF, hF1, hF2⟩ := hfl.row.shape
  simp only [Value.slice.injEq] at eF
  obtain ⟨rfl, rfl, rfl⟩ := eF
  replace hF2 : cF ≤ 9223372036854775807 := hF2
  -- each function is fit
  have HNE := hid (show ∀ d ∈ F, Ne d.x ∧ d.x.kind = 6 from fun d hd => lams_all Ne.parts x HX.out (d.s, d.x) (by rw [← hfs]; exact List.mem_map.2 ⟨d, hd, rfl⟩))
  clear hfl hfs hfr hg12
  go_wp2
  go_loopw [4, 17] (fun lv iv wr => ∃ (j : Nat) (aN : Option Addr) (mN cN : Nat), j ≤ F.length ∧ iv = .int .i64 j ∧ lv = .slice aN mN cN ∧ RowOf 42 2 NdD.cells w2.heap.size wr (.slice aN mN cN) ((F.map FnD.nd).take j) ∧ Grew w2 wr) (fun _ iv _ => F.length - (intOf iv).toNat)
  case atStart => exact ⟨0, none, 0, 0, Nat.zero_le _, rfl, rfl, RowOf.nil _ _ _ _ _, Fr.refl _ _⟩
  case round =>
    obtain ⟨j, aN, mN, cN, hj, rfl, rfl, hrow, hgr⟩ := hrel
    have HROW := hid hrow
    have HGR := hid hgr
    by_cases hlt : j < F.length
    · obtain ⟨d, hd⟩ := at_of_lt hlt
      obtain ⟨gF, cF2, eF, -, -, -, -, hcell⟩ := HFL.out.row.at FnD.len (fun e => by rw [e] at hlt; simp at hlt)
      simp only [Value.slice.injEq] at eF
      obtain ⟨rfl, -, rfl⟩ := eF
      have q0 := hgr.cell (hcell j d hd 0 (by omega)) (fun f => f)
      have q1 := hgr.cell (hcell j d hd 1 (by omega)) (fun f => f)
      have q2 := hgr.cell (hcell j d hd 2 (by omega)) (fun f => f)
      have q3 := hgr.cell (hcell j d hd 3 (by omega)) (fun f => f)
      have q4 := hgr.cell (hcell j d hd 4 (by omega)) (fun f => f)
      have q5 := hgr.cell (hcell j d hd 5 (by omega)) (fun f => f)
      simp only [Nat.add_zero] at q0 q1 q2 q3 q4 q5
      have HTK := hid (show (F.map FnD.nd).take (j + 1) = (F.map FnD.nd).take j ++ [d.nd] by rw [List.take_add_one, List.getElem?_map, hd]; rfl)
      obtain ⟨W4, hW4⟩ : ∃ q : World, q = wr.alloc (.cells #[St d.s, .slice (some ⟨d.b, 0, none⟩) d.x.names.length d.x.names.length, Kv d.x.kind, St d.x.text, .slice d.an d.x.names.length d.cn, .slice d.aa d.x.parts.length d.ca] 78) := ⟨_, rfl⟩
      have g4 : Grew wr W4 := by rw [hW4]; exact (Fr.refl _ _).alloc _
      have hb4 : W4.heap[wr.heap.size]? = some (.cells #[St d.s, .slice (some ⟨d.b, 0, none⟩) d.x.names.length d.x.names.length, Kv d.x.kind, St d.x.text, .slice d.an d.x.names.length d.cn, .slice d.aa d.x.parts.length d.ca] 78 (0, 0)) := by rw [hW4]; exact heap_alloc_new wr _
      obtain ⟨p0, p1⟩ := And.intro (cell_of_get hb4 0) (cell_of_get hb4 1)
      have hsz4 : w2.heap.size ≤ W4.heap.size := by have := hgr.size; have := g4.size; omega
      have ga : Grew W4 (W4.alloc (.cells d.nd.cells.toArray 42)) := (Fr.refl _ _).alloc _
      obtain ⟨v', w', hrun, hr5, hf5, ho5, a5, m5, c5, rfl⟩ := (hrow.grew (g4.trans ga (fun _ _ f => f))).app ty33 NdD.len (by have := ga.size; omega) (by rw [List.length_take]; omega) (d := d.nd) (heap_alloc_new W4 _) d.nd.one 33
      have HRUN := hid (show (Builtin.append_ #[33, 33] 33 #[.slice aN mN cN, .slice (some ⟨W4.heap.size, 0, none⟩) 1 1]).run Try.prog (W4.alloc (.cells #[St d.s, .slice (some ⟨d.b, 0, none⟩) d.x.names.length d.x.names.length] 42)) = .ok (.slice a5 m5 c5) w' from hrun)
      have HR5 := hid (show RowOf 42 2 NdD.cells w2.heap.size w' (.slice a5 m5 c5) ((F.map FnD.nd).take (j + 1)) by rw [HTK.out]; exact hr5)
      have HG5 := hid (show Grew w2 w' from (hgr.trans (g4.trans ga (fun _ _ f => f)) (fun _ _ f => f)).trans hf5 (fun c hc e => by have := (hrow.lt e).1; omega))
      clear hcell hd hrow hgr g4 hb4 hsz4 ga hrun hr5 hf5 ho5
      go_upto_region 6 with (fail)
      rw [← hW4]
      clear hW4 q0 q1 q2 q3 q4 q5
      go_wp2_with (at_builtin; refine wpList_app rfl rfl rfl rfl HRUN.out ?_; clear HRUN)
      go_roundw
      case rel => first | exact ⟨j + 1, a5, m5, c5, by omega, by go_num, rfl, HR5.out, HG5.out⟩ | exact ⟨j + 1, by omega, a5, m5, c5, by go_num, rfl, HR5.out, HG5.out⟩ | exact ⟨a5, m5, c5, j + 1, by omega, by go_num, rfl, HR5.out, HG5.out⟩
      case measure => simp [intOf]; omega
    · obtain rfl : j = F.length := by omega
      rw [List.take_of_length_le (by simp)] at HROW
      clear hrow
      obtain ⟨W3, rfl⟩ : ∃ q : World, q = wr := ⟨_, rfl⟩
      have HNS0 := hid (show NS 42 W1.heap.size W3 (.slice aN mN cN) (F.map FnD.nd) (ini x.lams) from by
        have hof := HFL.out.of
        refine ⟨HROW.out.mono HS2.out, by rw [← HFS.out]; simp [ini], fun i d hd => ?_, fun i d hd g hg e => ?_, fun i j d d' hd hd' g hg hg' => ?_⟩
        · rw [List.getElem?_map] at hd
          obtain ⟨f, hf, rfl⟩ := Option.map_eq_some_iff.1 hd
          obtain ⟨k1, -, k3⟩ := hof f (List.mem_of_getElem? hf)
          refine ⟨List.replicate f.x.names.length true, by rw [ini_of HFS.out, List.getElem?_map, hf]; rfl, by simp [FnD.nd], ?_⟩
          have hnl : f.x.names.length ≤ 900 := by
            have := (HNE.out f (List.mem_of_getElem? hf)).1.2.1
            generalize f.x = y at this
            cases this with | mk k t ns a ht hn ha h => exact hn
          have := rb_of_bs (B := W1.heap.size) (k3.kept HGR.out (fun f => f)) k1 (by simp; omega)
          simpa [NdD.v, FnD.nd] using this
        · rw [List.getElem?_map] at hd
          obtain ⟨f, hf, rfl⟩ := Option.map_eq_some_iff.1 hd
          obtain ⟨k1, -, k3⟩ := hof f (List.mem_of_getElem? hf)
          have h1 : f.b = g := by simpa [NdD.v, FnD.nd, Value.ownBlock] using hg
          have h2 := (HROW.out.lt e).1
          have h3 := lt_of_get k3
          omega
        · rw [List.getElem?_map] at hd hd'
          obtain ⟨f, hf, rfl⟩ := Option.map_eq_some_iff.1 hd
          obtain ⟨f', hf', rfl⟩ := Option.map_eq_some_iff.1 hd'
          have h1 : f.b = g := by simpa [NdD.v, FnD.nd, Value.ownBlock] using hg
          have h2 : f'.b = g := by simpa [NdD.v, FnD.nd, Value.ownBlock] using hg'
          have hnd := HFL.out.nd
          refine (List.getElem?_inj (l := F.map (·.b)) (by rw [List.length_map]; exact (List.getElem?_eq_some_iff.1 hf).1) hnd).1 ?_
          simp [hf, hf', h1, h2])
      clear hgr
      have hmN : mN = F.length := by
        obtain ⟨a2, c2, e2, -⟩ := HROW.out.shape
        simp only [Value.slice.injEq, List.length_map] at e2
        exact e2.2.1
      subst hmN
      obtain ⟨Fn, hFn⟩ : ∃ p, p = x.lams := ⟨_, rfl⟩
      rw [← hFn] at HNS0 HFS
      obtain ⟨L, hL⟩ : ∃ p, p = F.map FnD.nd := ⟨_, rfl⟩
      rw [← hL] at HNS0
      have HLL := hid hL
      have HFN := hid hFn
      clear hL hFn
      have HOB := hid (show ∀ b, OB F b → W1.heap.size ≤ b ∧ b < w2.heap.size from fun b ⟨d, hd, e⟩ => by
        obtain ⟨k1, -, k3⟩ := HFL.out.of d hd
        have := lt_of_get k3
        omega)
      go_wp2
      go_loopw [7] (fun q wr => ∃ (ag : Bool) (nl : Ned), q = .bool ag ∧ NS 42 W1.heap.size wr (.slice aN F.length cN) L nl ∧ Run Fn nl ∧ Fr (OB F) W3 wr ∧ (ag = false → pas Fn nl = nl)) (fun a wr => 2 * totW wr L + (match a with | .bool true => 1 | _ => 0))
      case atStart => exact ⟨true, _, rfl, HNS0.out, Run.zero, Fr.refl _ _, fun e => by cases e⟩
      case round =>
        obtain ⟨ag, nl0, rfl, hns, hrun, hfr, hfix⟩ := hrel
        have HNS := hid hns
        have HRN := hid hrun
        have HFR := hid hfr
        have HFIX := hid hfix
        clear hns hrun hfr hfix
        cases ag
        · have hcl := clone_needs (HNS.out) (by have := HFR.out.size; have := HGR.out.size; have := HS2.out; omega) (by rw [HLL.out, List.length_map]; omega)
          go_wp2_with (go_at_call 51; (with_reducible refine hcl.mono ?_); rintro e w9 ⟨a9, m9, c9, rfl, hns9, hg9⟩; clear hcl)
          go_ret
          refine ⟨_, _, _, L, nl0, rfl, ?_, ?_, ?_, ?_⟩
          · exact ⟨hns9.row.mono (by have := HS1.out; omega), hns9.len, fun i d hd => by obtain ⟨bs, k1, k2, k3⟩ := hns9.el i d hd; exact ⟨bs, k1, k2, k3.mono (by have := HS1.out; omega)⟩, hns9.row', hns9.sep⟩
          · rw [← HFN.out]; exact HRN.out
          · rw [← HFN.out]; exact HFIX.out (by trivial)
          · exact ((HGW2.out.trans HGR.out (fun _ _ f => f)).trans HFR.out (fun c hc e => by have := (HOB.out c e).1; have := HS1.out; omega)).trans hg9 (fun _ _ f => f)
        · go_wp2
          obtain ⟨wo, rfl⟩ : ∃ q : World, q = wr := ⟨_, rfl⟩
          go_loopw [7, 30] (fun q iv wr => ∃ (ag : Bool) (nl : Ned) (j : Nat), q = .bool ag ∧ iv = .int .i64 j ∧ j ≤ F.length ∧ nl = pasTo Fn nl0 j ∧ PS 42 W1.heap.size (OB F) W3 (.slice aN F.length cN) L nl0 ag nl wr) (fun _ iv _ => F.length - (intOf iv).toNat)
          case atStart => exact ⟨false, nl0, 0, rfl, rfl, Nat.zero_le _, rfl, HNS.out, HFR.out, Nat.le_refl _, (fun e => by cases e), fun _ => rfl⟩
          case round =>
            obtain ⟨ag, nl, j, rfl, rfl, hj, hnl, hps⟩ := hrel
            have HNL := hid hnl
            have HPS := hid hps
            clear hnl
            by_cases hlt : j < F.length
            · obtain ⟨d, hd⟩ := at_of_lt hlt
              have hps' := hps
              have HDM := hid (List.mem_of_getElem? hd)
              obtain ⟨gF, cF2, eF, -, -, hgF, hgF2, hcell⟩ := HFL.out.row.at FnD.len (fun e => by rw [e] at hlt; simp at hlt)
              simp only [Value.slice.injEq] at eF
              obtain ⟨rfl, -, rfl⟩ := eF
              have hdof := HFL.out.of d (List.mem_of_getElem? hd)
              have hnOB : ∀ b, OB F b → b ≠ gF := fun b ⟨d', hd', e1⟩ e2 => (HFL.out.of d' hd').2.1 (by rw [e1, e2]; rfl)
              have hfw : Fr (OB F) w2 wr := (Grew.any HGR.out).trans hps.fr (fun _ _ e => e)
              have q0 := hfw.cell (hcell j d hd 0 (by omega)) (fun e => hnOB _ e rfl)
              have q1 := hfw.cell (hcell j d hd 1 (by omega)) (fun e => hnOB _ e rfl)
              have q2 := hfw.cell (hcell j d hd 2 (by omega)) (fun e => hnOB _ e rfl)
              have q3 := hfw.cell (hcell j d hd 3 (by omega)) (fun e => hnOB _ e rfl)
              have q4 := hfw.cell (hcell j d hd 4 (by omega)) (fun e => hnOB _ e rfl)
              have q5 := hfw.cell (hcell j d hd 5 (by omega)) (fun e => hnOB _ e rfl)
              simp only [Nat.add_zero] at q0 q1 q2 q3 q4 q5
              obtain ⟨W4, hW4⟩ : ∃ q : World, q = wr.alloc (.cells #[St d.s, .slice (some ⟨d.b, 0, none⟩) d.x.names.length d.x.names.length, Kv d.x.kind, St d.x.text, .slice d.an d.x.names.length d.cn, .slice d.aa d.x.parts.length d.ca] 78) := ⟨_, rfl⟩
              have g4 : Grew wr W4 := by rw [hW4]; exact (Fr.refl _ _).alloc _
              have hb4 : W4.heap[wr.heap.size]? = some (.cells #[St d.s, .slice (some ⟨d.b, 0, none⟩) d.x.names.length d.x.names.length, Kv d.x.kind, St d.x.text, .slice d.an d.x.names.length d.cn, .slice d.aa d.x.parts.length d.ca] 78 (0, 0)) := by rw [hW4]; exact heap_alloc_new wr _
              have hOBw : ∀ b, OB F b → w.heap.size ≤ b := fun b e => by have := (HOB.out b e).1; have := HS1.out; omega
              have hrd := HFL.out.rd d (List.mem_of_getElem? hd)
              obtain ⟨hne, hk6⟩ := HNE.out d (List.mem_of_getElem? hd)
              obtain ⟨bx, rx, hpx, hbx, hnb⟩ := hne.body hk6
              have hrow4 := (hrd.2.kept hfw hOBw).grew g4
              rw [hpx] at hrow4
              rcases hrow4.elems with q | ⟨g, o, cap, ev, hcap1, hcap2, -, hel⟩
              · cases q
              simp only [Value.slice.injEq] at ev
              obtain ⟨eaa, -, rfl⟩ := ev
              obtain ⟨an2, cn2, aa2, ca2, he⟩ := hel 0 bx rfl
              rw [Nat.zero_mul, Nat.add_zero] at he
              have hrdb : Rd W4 (fun _ => False) (.agg #[Kv bx.kind, St bx.text, .slice an2 bx.names.length cn2, .slice aa2 bx.parts.length ca2]) bx := ⟨_, _, rfl, he.nm.mono (fun _ _ f => f.elim), he.row.mono (fun _ _ f => f.elim)⟩
              have hnd4 : Nd W4 (fun _ => False) (.slice aN F.length cN) nl := ((hps.ns.grew g4).nd).mono (fun _ _ f => f.elim)
              have hcall := dem_any hnd4 hrdb hnb.1 W4 (Fr.refl _ _)
              have hpl : (0 : Int) < (d.x.parts.length : Int) := by rw [hpx]; simp
              obtain ⟨p0, p1⟩ := And.intro (cell_of_get hb4 0) (cell_of_get hb4 1)
              have p5 : W4.cell? ⟨wr.heap.size, 5, none⟩ = some (.slice (some ⟨g, o, none⟩) d.x.parts.length d.ca) := by rw [← eaa]; exact cell_of_get hb4 5
              obtain ⟨c0, c1⟩ := And.intro he.c0 he.c1
              obtain ⟨c2, c3⟩ := And.intro he.c2 he.c3
              obtain ⟨bs0, hbs0, hbl0, -⟩ := hps.ns.el j d.nd (by rw [HLL.out, List.getElem?_map, hd]; rfl)
              have HBS0 := hid hbs0
              have HBL0 := hid (show bs0.length = d.x.names.length from hbl0)
              have HB4 := hid hb4
              have HG4 := hid g4
              have HNM := hid ((hrd.1.kept hfw hOBw).grew g4)
              have HLD := hid (show L[j]? = some d.nd by rw [HLL.out, List.getElem?_map, hd]; rfl)
              have HSTP := hid (show pasTo Fn nl0 (j + 1) = nl.set j (d.s, nxt (dem nl bx) d.x.names bs0) by
                rw [pasTo, ← HNL.out, stp_at (f := (d.s, d.x)) (by rw [← HFS.out, List.getElem?_map, hd]; rfl) hbs0, hbx]
                rfl)
              have hnlen : d.x.names.length ≤ 900 := by
                have := hne.2.1
                generalize d.x = y at this
                cases this with | mk k t ns a ht hn ha h => exact hn
              have HJW := hid (show W3.heap.size ≤ wr.heap.size from hps.fr.size)
              clear hps' hps hcell hdof hnOB hfw g4 hb4 hrd hne hk6 hpx hbx hnb hrow4 hel he hrdb hnd4 hbs0 hbl0 hOBw hd hgF hgF2 hcap1 hcap2 eaa
              go_upto_region 14 with (fail)
              rw [← hW4]
              clear hW4 q0 q1 q2 q3 q4 q5
              go_upto_region 15 with (go_at_call 50; (with_reducible refine hcall.mono ?_); rintro e w5 ⟨v5, rfl, hsd, hg5⟩; clear hcall c0 c1 c2 c3 p0 p1 p5; obtain ⟨mb, A, rfl⟩ := hsd.shape)
              obtain ⟨dm, hdm⟩ : ∃ q, q = dem nl bx := ⟨_, rfl⟩
              rw [← hdm] at hsd HSTP
              clear hdm
              obtain ⟨A', S, ⟨mb', e', hmB, hmp, hAS⟩, hk1, hk2⟩ := hsd
              have hbc := agg_inj e'
              have hAA : A = A' := by
                simp only [Value.agg.injEq, Array.mk.injEq, List.cons.injEq, Value.bool.injEq] at e'
                exact e'.2.1
              subst hbc
              subst hAA
              obtain ⟨W6, hW6⟩ : ∃ q : World, q = w5.alloc (.cells #[.map (some mb), .bool A] 81) := ⟨_, rfl⟩
              have g56 : Grew w5 W6 := by rw [hW6]; exact (Fr.refl _ _).alloc _
              have ho6 : W6.heap[w5.heap.size]? = some (.cells #[.map (some mb), .bool A] 81 (0, 0)) := by rw [hW6]; exact heap_alloc_new w5 _
              have g46 := hg5.trans g56 (fun _ _ f => f)
              have HG6 := hid (HG4.out.trans g46 (fun _ _ f => f))
              have HO6 := hid ho6
              have HMP := hid (hmp.kept g56 (fun f => f))
              have HB6 := hid (g46.get HB4.out (fun f => f))
              have HNM6 := hid (HNM.out.grew g46)
              have HK1 := hid hk1
              have HK2 := hid hk2
              have HAS := hid hAS
              have HSZ6 := hid (show W3.heap.size ≤ wr.heap.size ∧ wr.heap.size ≤ w5.heap.size ∧ wr.heap.size ≤ mb by have := HJW.out; have := HG4.out.size; have := hg5.size; omega)
              clear e' hmB hmp hAS hk1 hk2 g56 ho6 g46 hg5
              rw [← hW6]
              clear hW6
              obtain ⟨dan, hdan⟩ : ∃ q, d.an = q := ⟨_, rfl⟩
              have p4 : W6.cell? ⟨wr.heap.size, 4, none⟩ = some (.slice dan d.x.names.length d.cn) := by rw [← hdan]; exact cell_of_get HB6.out 4
              rw [hdan] at HNM6
              have HDA := hid hdan
              clear hdan
              go_wp2
              clear p4
              obtain ⟨wp, rfl⟩ : ∃ q : World, q = wr := ⟨_, rfl⟩
              go_loopw [7, 48] (fun q iv wr => ∃ (ag : Bool) (nl2 : Ned) (k : Nat), q = .bool ag ∧ iv = .int .i64 k ∧ k ≤ d.x.names.length ∧ nl2 = nl.set j (d.s, nxtTo dm d.x.names bs0 k) ∧ PS 42 W1.heap.size (OB F) W3 (.slice aN F.length cN) L nl0 ag nl2 wr ∧ Fr (OB F) W6 wr) (fun _ iv _ => d.x.names.length - (intOf iv).toNat)
              case atStart => exact ⟨ag, nl, 0, rfl, rfl, Nat.zero_le _, by rw [nxtTo_zero]; exact (set_self HBS0.out).symm, HPS.out.grew HG6.out, Fr.refl _ _⟩
              case round =>
                obtain ⟨ag, nl2, k, rfl, rfl, hk, hnl2, hps, hfr⟩ := hrel
                have HN2 := hid hnl2
                have HPS2 := hid hps
                have HFR6 := hid hfr
                by_cases hkl : k < d.x.names.length
                · obtain ⟨s, hs⟩ := at_of_lt hkl
                  obtain ⟨gn, on, cn', e, -, -, hgn, hnel⟩ := HNM6.out.row (fun e => by rw [e] at hkl; simp at hkl)
                  simp only [Value.slice.injEq] at e
                  obtain ⟨rfl, -, ecn⟩ := e
                  have hOBn : ∀ b, W3.heap.size ≤ b → ¬ OB F b := fun b hb e => by have := (HOB.out b e).2; have := HGR.out.size; omega
                  have nam := hfr.cell (hnel k s hs) (fun e => hgn (by have h1 : W1.heap.size ≤ gn := (HOB.out _ e).1; have h2 := HS1.out; show w.heap.size ≤ gn; omega))
                  obtain ⟨gN, cN2, eN, -, -, -, -, hncell⟩ := hps.ns.row.at NdD.len (fun e => by have := HLD.out; rw [e] at this; simp at this)
                  simp only [Value.slice.injEq] at eN
                  obtain ⟨rfl, -, rfl⟩ := eN
                  have nc1 : wr.cell? ⟨gN, j * 2 + 1, none⟩ = some (.slice (some ⟨d.b, 0, none⟩) d.x.names.length d.x.names.length) := hncell j d.nd HLD.out 1 (by omega)
                  obtain ⟨bs2, hb2, hl2, hrb⟩ := hps.ns.el j d.nd HLD.out
                  have hb2' : bs2 = nxtTo dm d.x.names bs0 k := by
                    have h1 := List.getElem?_set_self (a := (d.s, nxtTo dm d.x.names bs0 k)) (List.getElem?_eq_some_iff.1 HBS0.out).1
                    rw [← hnl2, hb2] at h1
                    cases h1
                    rfl
                  obtain ⟨b, hb⟩ := at_of_lt (l := bs0) (i := k) (by have := HBL0.out; omega)
                  have hbk : bs2[k]? = some b := by rw [hb2', nxtTo_at]; exact hb
                  obtain ⟨g9, cap9, e9, -, -, -, -, hbc, hbf⟩ := hrb.at (fun e => by rw [e] at hbk; simp at hbk)
                  have e9' : d.b = g9 := by
                    simp only [NdD.v, FnD.nd, Value.slice.injEq, Option.some.injEq, Addr.mk.injEq] at e9
                    exact e9.1.1
                  subst e9'
                  have bc := hbc k b hbk
                  have bf := hbf k
                  have ho := hfr.get HO6.out (hOBn _ (by have := HSZ6.out; omega))
                  obtain ⟨o0, o1⟩ := And.intro (cell_of_get ho 0) (cell_of_get ho 1)
                  obtain ⟨q, hq, hlk⟩ := (HMP.out.kept hfr (hOBn _ (by have := HSZ6.out; omega))).look s
                  have HSK := hid hs
                  have HBK := hid hb
                  have HB2 := hid hb2
                  have HBB := hid hbk
                  have HB2E := hid hb2'
                  have HQ := hid hq
                  have hj2 : (j : Int) < (F.length : Int) := by omega
                  clear hnl2 hps hfr hs hnel hgn hncell hb2 hl2 hrb hb2' hb hbk hbc hbf e9 ho hq hOBn ecn
                  have HSAME := hid (fun (h : b = false ∨ dm.all ∨ dm.mem s) => show nl2 = nl.set j (d.s, nxtTo dm d.x.names bs0 (k + 1)) by rw [nxtTo_same dm HBK.out (nxt_keep HSK.out HBK.out h)]; exact HN2.out)
                  cases b
                  case false =>
                    have HS2 := hid (HSAME.out (.inl rfl))
                    go_wp2
                    go_roundw
                    case rel => exact ⟨ag, nl2, k + 1, rfl, by go_num, by omega, HS2.out, HPS2.out, HFR6.out⟩
                    case measure => simp [intOf]; omega
                  case true =>
                    cases A
                    case true =>
                      have HS2 := hid (HSAME.out (.inr (.inl (HK1.out.1 rfl))))
                      go_wp2
                      go_roundw
                      case rel => exact ⟨ag, nl2, k + 1, rfl, by go_num, by omega, HS2.out, HPS2.out, HFR6.out⟩
                      case measure => simp [intOf]; omega
                    case false =>
                      cases q
                      case true =>
                        have HS2 := hid (HSAME.out (.inr (.inr ((HK2.out rfl s).1 (HQ.out.1 rfl)))))
                        go_wp2
                        go_roundw
                        case rel => exact ⟨ag, nl2, k + 1, rfl, by go_num, by omega, HS2.out, HPS2.out, HFR6.out⟩
                        case measure => simp [intOf]; omega
                      case false =>
                        have hno : ¬ (dm.all ∨ dm.mem s) := fun z => z.elim (fun y => by have := HK1.out.2 y; cases this) (fun y => by have := HQ.out.2 ((HK2.out rfl s).2 y); cases this)
                        have hset : Fr (fun c => c = d.b) wr (wr.setCell ⟨d.b, k, none⟩ (.bool false)) := (Fr.refl (fun c => c = d.b) wr).setCell (p := ⟨d.b, k, none⟩) (fun _ => rfl) _
                        have hOd : ∀ c, c = d.b → OB F c := fun c e => ⟨d, HDM.out, e.symm⟩
                        have hnt := nxtTo_turn dm HBK.out (nxt_drop HSK.out HBK.out hno)
                        have hnew : nl2.set j (d.s, bs2.set k false) = nl.set j (d.s, nxtTo dm d.x.names bs0 (k + 1)) := by
                          rw [hnt, ← HB2E.out, HN2.out, List.set_set]
                        have hns' := HPS2.out.ns.set HLD.out HB2.out (show d.nd.v = .slice (some ⟨d.b, 0, none⟩) d.x.names.length d.x.names.length from rfl) (k := k) (List.getElem?_eq_some_iff.1 HBB.out).1 false
                        have ht1 := tot_set (bs' := bs2.set k false) HB2.out
                        have ht2 := count_set HBB.out
                        have HP9 := hid (show PS 42 W1.heap.size (OB F) W3 (.slice (some ⟨gN, 0, none⟩) F.length cN) L nl0 true (nl.set j (d.s, nxtTo dm d.x.names bs0 (k + 1))) (wr.setCell ⟨d.b, k, none⟩ (.bool false)) from by
                          rw [← hnew]
                          have h1 := HPS2.out.le
                          have ht3 : tot (nl2.set j (d.s, bs2.set k false)) + bs2.count true = tot nl2 + (bs2.set k false).count true := ht1
                          exact ⟨hns', HPS2.out.fr.trans hset (fun c _ e => hOd c e), by omega, fun _ => by omega, fun e => by cases e⟩)
                        have HF9 := hid (HFR6.out.trans hset (fun c _ e => hOd c e))
                        clear hno hset hOd hnt hnew hns' ht1 ht2
                        go_wp2
                        go_roundw
                        case rel => exact ⟨true, _, k + 1, rfl, by go_num, by omega, rfl, HP9.out, HF9.out⟩
                        case measure => simp [intOf]; omega
                · obtain rfl : k = d.x.names.length := by omega
                  have HE2 := hid (show nl2 = pasTo Fn nl0 (j + 1) by rw [hnl2, nxtTo_all _ _ _ (by have := HBL0.out; omega)]; exact HSTP.out.symm)
                  clear hnl2 hps hfr
                  go_wp2
                  go_roundw
                  case rel => exact ⟨ag, nl2, j + 1, rfl, by go_num, by omega, HE2.out, HPS2.out⟩
                  case measure => simp [intOf]; omega
            · obtain rfl : j = F.length := by omega
              have hFl : Fn.length = F.length := by rw [← HFS.out, List.length_map]
              have HP2 := hid (show nl = pas Fn nl0 by rw [HNL.out]; unfold pas; rw [hFl])
              clear hps hFl
              go_wp2
              go_roundw
              case rel => exact ⟨ag, nl, rfl, HPS.out.ns, by rw [HP2.out]; exact Run.succ _ HRN.out, HPS.out.fr, fun e => by have e2 := HPS.out.eq e; rw [e2]; rw [← HP2.out]; exact e2⟩
              case measure =>
                have h1 := HPS.out.ns.tot
                have h2 := HNS.out.tot
                have h3 := HPS.out.le
                cases ag
                · simp only []; omega
                · have := HPS.out.lt rfl
                  simp only []; omega
end Go.Proofs.Ytddcfnjmppijjaa
