import Derived.Test.YtddcfnjmppijjaaT2
import Derived.Test.YtddcfnjmppijjaaP8
import Derived.Test.YtddcfnjmppijjaaP4
import Derived.Test.YtddcfnjmppijjaaN6
/-! CoreKnown's walk. -/
namespace Go.Proofs.Ytddcfnjmppijjaa
open Go.RowKit

abbrev kx : X := .mk 5 [120] [] []
abbrev ky : X := .mk 5 [121] [] []
abbrev k5 : X := .mk 1 [53] [] []
abbrev kb : X := .mk 2 [35, 116] [] []
abbrev kn : X := .mk 3 [] [] []
abbrev kf : X := .mk 5 [102] [] []
abbrev kt0 : X := .mk 6 [] [[120], [121]] [kx]
abbrev kt1 : X := .mk 7 [] [] [kx, ky, k5]
abbrev kt2 : X := .mk 8 [] [] [kb, kx, ky]
abbrev kt3 : X := .mk 9 [] [[120], [121]] [k5, kx, ky]
abbrev kt4 : X := .mk 10 [99, 111, 110, 115] [] [k5, kn]
abbrev kt5 : X := .mk 4 [97] [] []
abbrev kz : X := .mk 6 [] [[122]] [kx]
abbrev kt6 : X := .mk 9 [] [[102]] [kz, kf]
abbrev ks7 : List X := [kt0, kt1, kt2, kt3, kt4, kt5, kt6]

abbrev ksW : List Str := [[40, 108, 97, 109, 98, 100, 97, 32, 40, 120, 32, 121, 41, 32, 120, 41], [40, 120, 32, 121, 32, 53, 41], [40, 105, 102, 32, 35, 116, 32, 120, 32, 121, 41], [40, 108, 101, 116, 32, 40, 40, 120, 32, 53, 41, 32, 40, 121, 32, 120, 41, 41, 32, 121, 41], [40, 99, 111, 110, 115, 32, 53, 32, 40, 41, 41], [39, 97], [40, 108, 101, 116, 32, 40, 40, 102, 32, 40, 108, 97, 109, 98, 100, 97, 32, 40, 122, 41, 32, 120, 41, 41, 41, 32, 102, 41]]
abbrev ksF : List Str := [[], [120, 32, 121], [120, 32, 121], [], [], [], [120]]
mutual
/-- may it be written, is it small? -/
def wkB : X → Bool
  | .mk k t ns a => (decide (k = 6 → a.length = 1) && (decide (k = 9 → a.length = ns.length + 1) && (decide (k = 8 ∨ k = 10 → a.length ≠ 0) && (decide (k = 10 → t ≠ []) && (decide (k = 6 ∨ k = 9 → ns ≠ [] ∧ ∀ s ∈ ns, s ≠ []) &&
      (decide (t.length ≤ 900) && (decide (ns.length ≤ 900) && (decide (a.length ≤ 900) && (decide (form k t ns (txl a) ≠ []) && decide ((form k t ns (txl a)).length ≤ 1000000)))))))))) && wksB a
def wksB : List X → Bool
  | [] => true
  | x :: r => wkB x && wksB r
end
mutual
theorem wkB_ok : ∀ x : X, wkB x = true → Wo x ∧ Smn 900 x ∧ Sm x
  | .mk k t ns a, h => by
    simp only [wkB, Bool.and_eq_true, decide_eq_true_eq] at h
    obtain ⟨⟨h6, h9, h8, h10, h69, ht, hn, ha, h0, hb⟩, hp⟩ := h
    have hi := wksB_ok a hp
    exact ⟨.mk k t ns a h6 h9 (fun q e => h8 q (by rw [e]; rfl)) h10 h69 (by omega) (by omega) h0 (by omega) (fun x hx => (hi x hx).1), .mk k t ns a ht hn ha (fun x hx => (hi x hx).2.1), .mk k t ns a (by omega) (by omega) (by omega) (fun x hx => (hi x hx).2.2)⟩
theorem wksB_ok : ∀ l : List X, wksB l = true → ∀ x ∈ l, Wo x ∧ Smn 900 x ∧ Sm x
  | [], _ => fun x hx => absurd hx (by simp)
  | y :: r, h => fun x hx => by
    simp only [wksB, Bool.and_eq_true] at h
    rcases List.mem_cons.1 hx with e | hx
    · rw [e]; exact wkB_ok y h.1
    · exact wksB_ok r h.2 x hx
end
/-- what the seven are -/
theorem known7 (k : Nat) (hk : k < 7) : ∃ x f, ks7[k]? = some x ∧ ksW[k]? = some x.tx ∧ ksF[k]? = some (gl f) ∧ f.Pairwise (fun x y => x ≤ y) ∧ f.Nodup ∧ (∀ y, y ∈ f ↔ y ∈ x.fv) ∧ x.ok = true ∧ wkB x = true ∧ x.size ≤ 100 ∧ (gl f).length ≤ 100 := by
  obtain rfl | rfl | rfl | rfl | rfl | rfl | rfl : k = 0 ∨ k = 1 ∨ k = 2 ∨ k = 3 ∨ k = 4 ∨ k = 5 ∨ k = 6 := by omega
  · exact ⟨kt0, [], rfl, by decide, by decide, by decide, by decide, fun y => by rw [show (kt0).fv = [] by decide], by decide, by decide, by decide, by decide⟩
  · exact ⟨kt1, [[120], [121]], rfl, by decide, by decide, by decide, by decide, fun y => by rw [show (kt1).fv = [[120], [121]] by decide], by decide, by decide, by decide, by decide⟩
  · exact ⟨kt2, [[120], [121]], rfl, by decide, by decide, by decide, by decide, fun y => by rw [show (kt2).fv = [[120], [121]] by decide], by decide, by decide, by decide, by decide⟩
  · exact ⟨kt3, [], rfl, by decide, by decide, by decide, by decide, fun y => by rw [show (kt3).fv = [] by decide], by decide, by decide, by decide, by decide⟩
  · exact ⟨kt4, [], rfl, by decide, by decide, by decide, by decide, fun y => by rw [show (kt4).fv = [] by decide], by decide, by decide, by decide, by decide⟩
  · exact ⟨kt5, [], rfl, by decide, by decide, by decide, by decide, fun y => by rw [show (kt5).fv = [] by decide], by decide, by decide, by decide, by decide⟩
  · exact ⟨kt6, [[120]], rfl, by decide, by decide, by decide, by decide, fun y => by rw [show (kt6).fv = [[120]] by decide], by decide, by decide, by decide, by decide⟩

theorem right_any7 {w : World} (hG : Gl w) {D : Nat → Prop} {e : Value} {x : X} (h : Rd w D e x) (hs : Sm x) (w' : World) (hg : Grew w w') : Calls Try.prog 34 #[e] w' fun e w'' => e = .returned (.bool x.ok) ∧ Grew w' w'' := by
  obtain ⟨vn, va, rfl, hn, hr⟩ := h
  cases hs with
  | mk k t ns a ht hnl ha h => exact right_row hG hr h ha w' hg k t vn ns hn ht hnl

/-- a row of names -/
def FNm (l : List Str) (v : Value) (w : World) : Prop := Nm w (fun _ => False) v l
theorem FNm.stays (l : List Str) (v : Value) (w w' : World) (h : Grew w w') (k : FNm l v w) : FNm l v w' := Nm.grew k h
theorem FNm.shape {w : World} {v : Value} {l : List Str} (h : FNm l v w) : ∃ ad cap, v = .slice ad l.length cap ∧ l.length ≤ cap ∧ cap ≤ maxLen := Nm.shape h
/-- a row of terms -/
def FRow (l : List X) (v : Value) (w : World) : Prop := Row w (fun _ => False) v l
theorem FRow.stays (l : List X) (v : Value) (w w' : World) (h : Grew w w') (k : FRow l v w) : FRow l v w' := Row.grew k h
theorem FRow.shape {w : World} {v : Value} {l : List X} (h : FRow l v w) : ∃ ad cap, v = .slice ad l.length cap ∧ l.length ≤ cap ∧ cap ≤ maxLen := Row.shape h
/-- a term -/
def FTm (x : X) (v : Value) (w : World) : Prop := ∃ (an : Option Addr) (cn : Nat) (aa : Option Addr) (ca : Nat), v = .agg #[Kv x.kind, St x.text, .slice an x.names.length cn, .slice aa x.parts.length ca] ∧ Rd w (fun _ => False) (.agg #[Kv x.kind, St x.text, .slice an x.names.length cn, .slice aa x.parts.length ca]) x
theorem FTm.stays (x : X) (v : Value) (w w' : World) (h : Grew w w') (k : FTm x v w) : FTm x v w' := by
  obtain ⟨an, cn, aa, ca, e, k⟩ := k
  exact ⟨an, cn, aa, ca, e, k.grew h⟩
theorem nm_none (w : World) : Nm w (fun _ => False) (.slice none 0 0) [] := ⟨none, 0, rfl, Nat.zero_le _, Nat.zero_le _, .inl rfl⟩
theorem nm_strs (w : World) (l : List Str) (hl : l.length ≤ 1000 := by simp) : Nm (w.alloc (.cells (l.map St).toArray 9)) (fun _ => False) (.slice (some ⟨w.heap.size, 0, none⟩) l.length l.length) l :=
  ⟨_, _, rfl, Nat.le_refl _, by unfold maxLen; omega, .inr ⟨_, 0, rfl, fun f => f, fun i hi => by
    rw [Nat.zero_add, cell_of_get (heap_alloc_new w _)]
    simp [hi]⟩⟩
/-- the cells of a row of terms -/
def tcs : List (X × Value × Value) → List Value
  | [] => []
  | t :: r => Kv t.1.kind :: St t.1.text :: t.2.1 :: t.2.2 :: tcs r
theorem tcs_get (ts : List (X × Value × Value)) (i : Nat) (t : X × Value × Value) (h : ts[i]? = some t) : (tcs ts)[i * 4]? = some (Kv t.1.kind) ∧ (tcs ts)[i * 4 + 1]? = some (St t.1.text) ∧ (tcs ts)[i * 4 + 2]? = some t.2.1 ∧ (tcs ts)[i * 4 + 3]? = some t.2.2 := by
  induction ts generalizing i with
  | nil => simp at h
  | cons u r ih =>
    cases i with
    | zero => simp at h; subst h; exact ⟨rfl, rfl, rfl, rfl⟩
    | succ i =>
      have := ih i (by simpa using h)
      rw [show (i + 1) * 4 = i * 4 + 4 by omega]
      exact this
theorem row_tcs {w : World} (ts : List (X × Value × Value)) (hl : ts.length ≤ 1000) (hn : ∀ t ∈ ts, Nm w (fun _ => False) t.2.1 t.1.names) (hr : ∀ t ∈ ts, Row w (fun _ => False) t.2.2 t.1.parts) :
    Row (w.alloc (.cells (tcs ts).toArray 28)) (fun _ => False) (.slice (some ⟨w.heap.size, 0, none⟩) ts.length ts.length) (ts.map (·.1)) := by
  have hg : Grew w (w.alloc (.cells (tcs ts).toArray 28)) := (Fr.refl _ _).alloc _
  have hb := heap_alloc_new w (.cells (tcs ts).toArray 28)
  have hlm : (ts.map (·.1)).length = ts.length := by simp
  have hc : ∀ (i : Nat) (hi : i < ts.length) (j : Nat), (w.alloc (.cells (tcs ts).toArray 28)).cell? ⟨w.heap.size, 0 + i * 4 + j, none⟩ = (tcs ts)[i * 4 + j]? := fun i hi j => by
    rw [cell_of_get hb, Nat.zero_add]; simp
  have := Row.mk (w := w.alloc (.cells (tcs ts).toArray 28)) (D := fun _ => False) (ts.map (·.1)) w.heap.size 0 ts.length (fun i => (ts[i]?.map (·.2.1)).getD undef) (fun i => (ts[i]?.map (·.2.2)).getD undef) (by simp) (by unfold maxLen; omega) (fun f => f)
    (fun i hi => by
      rw [hlm] at hi
      rw [show 0 + i * 4 = 0 + i * 4 + 0 by omega, hc i hi 0, Nat.add_zero, (tcs_get ts i _ (List.getElem?_eq_getElem hi)).1]; simp)
    (fun i hi => by
      rw [hlm] at hi
      rw [hc i hi 1, (tcs_get ts i _ (List.getElem?_eq_getElem hi)).2.1]; simp)
    (fun i hi => by
      rw [hlm] at hi
      rw [hc i hi 2, (tcs_get ts i _ (List.getElem?_eq_getElem hi)).2.2.1, List.getElem?_eq_getElem hi]; simp)
    (fun i hi => by
      rw [hlm] at hi
      rw [hc i hi 3, (tcs_get ts i _ (List.getElem?_eq_getElem hi)).2.2.2, List.getElem?_eq_getElem hi]; simp)
    (fun i hi => by
      rw [hlm] at hi
      rw [List.getElem?_eq_getElem hi]
      simpa using (hn _ (List.getElem_mem hi)).grew hg)
    (fun i hi => by
      rw [hlm] at hi
      rw [List.getElem?_eq_getElem hi]
      simpa using (hr _ (List.getElem_mem hi)).grew hg)
  rwa [hlm] at this
theorem row_of_rd {w : World} (ts : List (X × Value × Value)) (hl : ts.length ≤ 1000) (h : ∀ t ∈ ts, Rd w (fun _ => False) (.agg #[Kv t.1.kind, St t.1.text, t.2.1, t.2.2]) t.1) :
    Row (w.alloc (.cells (tcs ts).toArray 28)) (fun _ => False) (.slice (some ⟨w.heap.size, 0, none⟩) ts.length ts.length) (ts.map (·.1)) :=
  row_tcs ts hl (fun t ht => by
    obtain ⟨_, _, e, hn, -⟩ := h t ht
    simp only [Value.agg.injEq] at e
    cases e
    exact hn) (fun t ht => by
    obtain ⟨_, _, e, -, hr⟩ := h t ht
    simp only [Value.agg.injEq] at e
    cases e
    exact hr)
theorem ftm_of {w : World} {e : Value} {x : X} (h : Rd w (fun _ => False) e x) : FTm x e w := by
  obtain ⟨vn, va, rfl, hn, hr⟩ := h
  obtain ⟨an, cn, rfl, -⟩ := hn.shape
  obtain ⟨aa, ca, rfl, -⟩ := hr.shape
  exact ⟨an, cn, aa, ca, rfl, ⟨_, _, rfl, hn, hr⟩⟩
theorem rows7 {w : World} {u0 v0 u1 v1 u2 v2 u3 v3 u4 v4 u6 v6 : Value} (r0 : Rd w (fun _ => False) (.agg #[Kv kt0.kind, St kt0.text, u0, v0]) kt0) (r1 : Rd w (fun _ => False) (.agg #[Kv kt1.kind, St kt1.text, u1, v1]) kt1) (r2 : Rd w (fun _ => False) (.agg #[Kv kt2.kind, St kt2.text, u2, v2]) kt2) (r3 : Rd w (fun _ => False) (.agg #[Kv kt3.kind, St kt3.text, u3, v3]) kt3) (r4 : Rd w (fun _ => False) (.agg #[Kv kt4.kind, St kt4.text, u4, v4]) kt4) (r6 : Rd w (fun _ => False) (.agg #[Kv kt6.kind, St kt6.text, u6, v6]) kt6) :
    FRow ks7 (.slice (some ⟨w.heap.size, 0, none⟩) 7 7) (w.alloc (.cells (tcs [(kt0, u0, v0), (kt1, u1, v1), (kt2, u2, v2), (kt3, u3, v3), (kt4, u4, v4), (kt5, .slice none 0 0, .slice none 0 0), (kt6, u6, v6)]).toArray 28)) :=
  row_of_rd _ (by simp) (by
    intro t ht
    simp only [List.mem_cons, List.not_mem_nil, or_false] at ht
    rcases ht with rfl | rfl | rfl | rfl | rfl | rfl | rfl
    · exact r0
    · exact r1
    · exact r2
    · exact r3
    · exact r4
    · exact rd_atom w _ 4 [97]
    · exact r6)
/-- a row of terms that are just a text -/
theorem row_atoms (w : World) (l : List (Int × Str)) (hl : l.length ≤ 1000 := by simp) : Row (w.alloc (.cells (tcs (l.map (fun a => (.mk a.1 a.2 [] [], .slice none 0 0, .slice none 0 0)))).toArray 28)) (fun _ => False) (.slice (some ⟨w.heap.size, 0, none⟩) l.length l.length) (l.map (fun a => .mk a.1 a.2 [] [])) := by
  have := row_tcs (w := w) (l.map (fun a => ((.mk a.1 a.2 [] [] : X), Value.slice none 0 0, Value.slice none 0 0))) (by simpa using hl) (fun t ht => by
    obtain ⟨a, _, rfl⟩ := List.mem_map.1 ht
    exact nm_none w) (fun t ht => by
    obtain ⟨a, _, rfl⟩ := List.mem_map.1 ht
    exact .nil none 0 (Nat.zero_le _))
  rw [List.length_map, List.map_map] at this
  exact this

set_option maxHeartbeats 8000000 in
set_option maxRecDepth 100000 in
theorem cknown_walk {W : World} (hG : Gl W) (n : Int) : Calls Try.prog 13 #[.int .i64 n] W fun e W' => e = .returned (.bool true) ∧ Grew W W' := by
  have hk := known_any hG
  have HGL := hid hG
  clear hG
  go_enter Try.func13, Try.ntmps13
  go_wp2_with (first | (go_at_call 32; (with_reducible refine hk.mono ?_); rintro e w1 ⟨rfl, hg1⟩; clear hk; have hv := var_any w1 [120]; have HG1 := hid hg1; clear hg1) | (go_at_call 28; (with_reducible refine hv.mono ?_); rintro e w2 ⟨rfl, hg2⟩; clear hv; have HG2 := hid hg2; have hu := var_any w2 [121]; clear hg2) | (go_at_call 28; (with_reducible refine hu.mono ?_); rintro e w3 ⟨rfl, hg3⟩; clear hu; have HG3 := hid hg3; clear hg3))
  obtain ⟨WA, hWA⟩ : ∃ q : World, q = ((w3.alloc (.cells #[.int .i64 5, .string ⟨#[120]⟩, .slice none 0 0, .slice none 0 0] 28)).alloc (.cells #[.int .i64 5, .string ⟨#[121]⟩, .slice none 0 0, .slice none 0 0] 28)).alloc (.cells #[.int .i64 1, .string ⟨#[53]⟩, .slice none 0 0, .slice none 0 0] 28) := ⟨_, rfl⟩
  have hbx : WA.heap[w3.heap.size]? = some (.cells #[Kv 5, St [120], .slice none 0 0, .slice none 0 0] 28 (0, 0)) := by rw [hWA]; exact (((Fr.refl (fun _ => False) _).alloc _).alloc _).get (heap_alloc_new w3 _) (fun f => f)
  have hby : WA.heap[w3.heap.size + 1]? = some (.cells #[Kv 5, St [121], .slice none 0 0, .slice none 0 0] 28 (0, 0)) := by rw [hWA]; exact ((Fr.refl (fun _ => False) _).alloc _).get (heap_a2 w3 _ _) (fun f => f)
  have hb5 : WA.heap[w3.heap.size + 1 + 1]? = some (.cells #[Kv 1, St [53], .slice none 0 0, .slice none 0 0] 28 (0, 0)) := by
    rw [hWA]
    have := heap_alloc_new ((w3.alloc (.cells #[.int .i64 5, .string ⟨#[120]⟩, .slice none 0 0, .slice none 0 0] 28)).alloc (.cells #[.int .i64 5, .string ⟨#[121]⟩, .slice none 0 0, .slice none 0 0] 28)) (.cells #[.int .i64 1, .string ⟨#[53]⟩, .slice none 0 0, .slice none 0 0] 28)
    simpa using this
  have HCX := hid (And.intro (cell_of_get hbx 0) (And.intro (cell_of_get hbx 1) (And.intro (cell_of_get hbx 2) (cell_of_get hbx 3))))
  have HCY := hid (And.intro (cell_of_get hby 0) (And.intro (cell_of_get hby 1) (And.intro (cell_of_get hby 2) (cell_of_get hby 3))))
  have HCF := hid (And.intro (cell_of_get hb5 0) (And.intro (cell_of_get hb5 1) (And.intro (cell_of_get hb5 2) (cell_of_get hb5 3))))
  have HGA := hid (show Grew W WA from ((HG1.out.trans HG2.out (fun _ _ f => f)).trans HG3.out (fun _ _ f => f)).trans (by rw [hWA]; exact (((Fr.refl _ _).alloc _).alloc _).alloc _) (fun _ _ f => f))
  rw [← hWA]
  clear hWA hbx hby hb5 HG1 HG2 HG3
  refine Rg.wp_region_facts 33 Grew [(15, FNm [[120], [121]]), (16, Rg.Ex (.agg #[Kv 5, St [120], .slice none 0 0, .slice none 0 0])), (17, FRow [kx]), (18, FTm kt0), (19, Rg.Ex (.agg #[Kv 5, St [120], .slice none 0 0, .slice none 0 0])), (20, Rg.Ex (.agg #[Kv 5, St [121], .slice none 0 0, .slice none 0 0])), (21, Rg.Ex (.agg #[Kv 1, St [53], .slice none 0 0, .slice none 0 0])), (22, FRow [kx, ky, k5]), (23, FTm kt1), (24, Rg.Ex (.agg #[Kv 2, St [35, 116], .slice none 0 0, .slice none 0 0])), (25, Rg.Ex (.agg #[Kv 5, St [120], .slice none 0 0, .slice none 0 0])), (26, Rg.Ex (.agg #[Kv 5, St [121], .slice none 0 0, .slice none 0 0])), (27, FRow [kb, kx, ky]), (28, FTm kt2), (29, FNm [[120], [121]]), (30, Rg.Ex (.agg #[Kv 1, St [53], .slice none 0 0, .slice none 0 0])), (31, Rg.Ex (.agg #[Kv 5, St [120], .slice none 0 0, .slice none 0 0])), (32, Rg.Ex (.agg #[Kv 5, St [121], .slice none 0 0, .slice none 0 0])), (33, FRow [k5, kx, ky]), (34, FTm kt3), (35, Rg.Ex (.agg #[Kv 1, St [53], .slice none 0 0, .slice none 0 0])), (36, Rg.Ex (.agg #[Kv 3, St [], .slice none 0 0, .slice none 0 0])), (37, FRow [k5, kn]), (38, FTm kt4), (39, Rg.Ex (.agg #[Kv 4, St [97], .slice none 0 0, .slice none 0 0])), (40, FNm [[122]]), (41, Rg.Ex (.agg #[Kv 5, St [120], .slice none 0 0, .slice none 0 0])), (42, FRow [kx]), (43, FTm kz), (44, Rg.Ex (.agg #[Kv 5, St [102], .slice none 0 0, .slice none 0 0])), (45, FTm kt6), (46, FRow ks7), (6, FRow ks7)] (by kernel_rfl) (by kernel_rfl) (by rfl) (by rfl)
    (fun a => Fr.refl _ a) (fun a b c h k => h.trans k (fun _ _ f => f)) (Fr.refl _ _).drew
    (Rg.Stays.all ⟨FNm.stays _, Rg.Ex.stays _, FRow.stays _, FTm.stays _, Rg.Ex.stays _, Rg.Ex.stays _, Rg.Ex.stays _, FRow.stays _, FTm.stays _, Rg.Ex.stays _, Rg.Ex.stays _, Rg.Ex.stays _, FRow.stays _, FTm.stays _, FNm.stays _, Rg.Ex.stays _, Rg.Ex.stays _, Rg.Ex.stays _, FRow.stays _, FTm.stays _, Rg.Ex.stays _, Rg.Ex.stays _, FRow.stays _, FTm.stays _, Rg.Ex.stays _, FNm.stays _, Rg.Ex.stays _, FRow.stays _, FTm.stays _, Rg.Ex.stays _, FTm.stays _, FRow.stays _, FRow.stays _, trivial⟩) ?_ ?_
  · go_light
    refine Rg.OpGoals.cons (Rg.OpGoal.plain rfl ?_) (Rg.OpGoals.cons (Rg.OpGoal.plain rfl ?_) (Rg.OpGoals.cons (Rg.OpGoal.plain rfl ?_) (Rg.OpGoals.cons (Rg.OpGoal.plain rfl ?_) (Rg.OpGoals.cons (Rg.OpGoal.plain rfl ?_) (Rg.OpGoals.cons (Rg.OpGoal.plain rfl ?_) (Rg.OpGoals.cons (Rg.OpGoal.plain rfl ?_) (Rg.OpGoals.cons (Rg.OpGoal.plain rfl ?_) (Rg.OpGoals.cons (Rg.OpGoal.plain rfl ?_) (Rg.OpGoals.cons (Rg.OpGoal.plain rfl ?_) (Rg.OpGoals.cons (Rg.OpGoal.plain rfl ?_) (Rg.OpGoals.cons (Rg.OpGoal.plain rfl ?_) (Rg.OpGoals.cons (Rg.OpGoal.plain rfl ?_) (Rg.OpGoals.cons (Rg.OpGoal.plain rfl ?_) (Rg.OpGoals.cons (Rg.OpGoal.plain rfl ?_) (Rg.OpGoals.cons (Rg.OpGoal.plain rfl ?_) (Rg.OpGoals.cons (Rg.OpGoal.plain rfl ?_) (Rg.OpGoals.cons (Rg.OpGoal.plain rfl ?_) (Rg.OpGoals.cons (Rg.OpGoal.plain rfl ?_) (Rg.OpGoals.cons (Rg.OpGoal.plain rfl ?_) (Rg.OpGoals.cons (Rg.OpGoal.plain rfl ?_) (Rg.OpGoals.cons (Rg.OpGoal.plain rfl ?_) (Rg.OpGoals.cons (Rg.OpGoal.plain rfl ?_) (Rg.OpGoals.cons (Rg.OpGoal.plain rfl ?_) (Rg.OpGoals.cons (Rg.OpGoal.plain rfl ?_) (Rg.OpGoals.cons (Rg.OpGoal.plain rfl ?_) (Rg.OpGoals.cons (Rg.OpGoal.plain rfl ?_) (Rg.OpGoals.cons (Rg.OpGoal.plain rfl ?_) (Rg.OpGoals.cons (Rg.OpGoal.plain rfl ?_) (Rg.OpGoals.cons (Rg.OpGoal.plain rfl ?_) (Rg.OpGoals.cons (Rg.OpGoal.plain rfl ?_) (Rg.OpGoals.cons (Rg.OpGoal.plain rfl ?_) (Rg.OpGoals.cons (Rg.OpGoal.plain rfl ?_) Rg.OpGoals.none))))))))))))))))))))))))))))))))
    all_goals (intro a' w' hS hR; simp [Rg.Rd, Op.operands, Call.operands, Rg.Fk, Rg.Ex] at hR)
    all_goals (have x0' := hS.cell HCX.out.1 (fun f => f))
    all_goals (have x1' := hS.cell HCX.out.2.1 (fun f => f))
    all_goals (have x2' := hS.cell HCX.out.2.2.1 (fun f => f))
    all_goals (have x3' := hS.cell HCX.out.2.2.2 (fun f => f))
    all_goals (have y0' := hS.cell HCY.out.1 (fun f => f))
    all_goals (have y1' := hS.cell HCY.out.2.1 (fun f => f))
    all_goals (have y2' := hS.cell HCY.out.2.2.1 (fun f => f))
    all_goals (have y3' := hS.cell HCY.out.2.2.2 (fun f => f))
    all_goals (have f0' := hS.cell HCF.out.1 (fun f => f))
    all_goals (have f1' := hS.cell HCF.out.2.1 (fun f => f))
    all_goals (have f2' := hS.cell HCF.out.2.2.1 (fun f => f))
    all_goals (have f3' := hS.cell HCF.out.2.2.2 (fun f => f))
    all_goals try (simp [Rg.Yields, execOp, Act.eval, hR, x0', x1', x2', x3', y0', y1', y2', y3', f0', f1', f2', f3', go_sem, Rg.Fk, Rg.Ex, Fr.refl]; done)
    · simp [Rg.Yields, execOp, Act.eval, go_sem, Rg.Fk, Rg.Ex]
      exact ⟨nm_strs w' [[120], [121]], (Fr.refl _ _).alloc _⟩
    · simp [Rg.Yields, execOp, Act.eval, hR, go_sem, Rg.Fk, Rg.Ex]
      exact ⟨row_atoms w' [(5, [120])], (Fr.refl _ _).alloc _⟩
    · obtain ⟨h1, h2⟩ := hR
      obtain ⟨a1, c1, e1, -⟩ := h1.shape
      obtain ⟨a2, c2, e2, -⟩ := h2.shape
      have h1' := h1
      have h2' := h2
      unfold FNm at h1'
      unfold FRow at h2'
      rw [e1] at h1'
      rw [e2] at h2'
      simp [Rg.Yields, execOp, Act.eval, e1, e2, go_sem, Rg.Fk, Rg.Ex, Fr.refl]
      exact ⟨_, _, _, _, rfl, _, _, rfl, h1', h2'⟩
    · simp [Rg.Yields, execOp, Act.eval, hR, go_sem, Rg.Fk, Rg.Ex]
      exact ⟨row_atoms w' [(5, [120]), (5, [121]), (1, [53])], (Fr.refl _ _).alloc _⟩
    · have h2 := hR
      obtain ⟨a2, c2, e2, -⟩ := h2.shape
      have h2' := h2
      unfold FRow at h2'
      rw [e2] at h2'
      simp [Rg.Yields, execOp, Act.eval, e2, go_sem, Rg.Fk, Rg.Ex, Fr.refl]
      exact ⟨none, 0, _, _, rfl, _, _, rfl, nm_none w', h2'⟩
    · simp [Rg.Yields, execOp, Act.eval, hR, go_sem, Rg.Fk, Rg.Ex]
      exact ⟨row_atoms w' [(2, [35, 116]), (5, [120]), (5, [121])], (Fr.refl _ _).alloc _⟩
    · have h2 := hR
      obtain ⟨a2, c2, e2, -⟩ := h2.shape
      have h2' := h2
      unfold FRow at h2'
      rw [e2] at h2'
      simp [Rg.Yields, execOp, Act.eval, e2, go_sem, Rg.Fk, Rg.Ex, Fr.refl]
      exact ⟨none, 0, _, _, rfl, _, _, rfl, nm_none w', h2'⟩
    · simp [Rg.Yields, execOp, Act.eval, go_sem, Rg.Fk, Rg.Ex]
      exact ⟨nm_strs w' [[120], [121]], (Fr.refl _ _).alloc _⟩
    · simp [Rg.Yields, execOp, Act.eval, hR, go_sem, Rg.Fk, Rg.Ex]
      exact ⟨row_atoms w' [(1, [53]), (5, [120]), (5, [121])], (Fr.refl _ _).alloc _⟩
    · obtain ⟨h1, h2⟩ := hR
      obtain ⟨a1, c1, e1, -⟩ := h1.shape
      obtain ⟨a2, c2, e2, -⟩ := h2.shape
      have h1' := h1
      have h2' := h2
      unfold FNm at h1'
      unfold FRow at h2'
      rw [e1] at h1'
      rw [e2] at h2'
      simp [Rg.Yields, execOp, Act.eval, e1, e2, go_sem, Rg.Fk, Rg.Ex, Fr.refl]
      exact ⟨_, _, _, _, rfl, _, _, rfl, h1', h2'⟩
    · simp [Rg.Yields, execOp, Act.eval, hR, go_sem, Rg.Fk, Rg.Ex]
      exact ⟨row_atoms w' [(1, [53]), (3, [])], (Fr.refl _ _).alloc _⟩
    · have h2 := hR
      obtain ⟨a2, c2, e2, -⟩ := h2.shape
      have h2' := h2
      unfold FRow at h2'
      rw [e2] at h2'
      simp [Rg.Yields, execOp, Act.eval, e2, go_sem, Rg.Fk, Rg.Ex, Fr.refl]
      exact ⟨none, 0, _, _, rfl, _, _, rfl, nm_none w', h2'⟩
    · simp [Rg.Yields, execOp, Act.eval, go_sem, Rg.Fk, Rg.Ex]
      exact ⟨nm_strs w' [[122]], (Fr.refl _ _).alloc _⟩
    · simp [Rg.Yields, execOp, Act.eval, hR, go_sem, Rg.Fk, Rg.Ex]
      exact ⟨row_atoms w' [(5, [120])], (Fr.refl _ _).alloc _⟩
    · obtain ⟨h1, h2⟩ := hR
      obtain ⟨a1, c1, e1, -⟩ := h1.shape
      obtain ⟨a2, c2, e2, -⟩ := h2.shape
      have h1' := h1
      have h2' := h2
      unfold FNm at h1'
      unfold FRow at h2'
      rw [e1] at h1'
      rw [e2] at h2'
      simp [Rg.Yields, execOp, Act.eval, e1, e2, go_sem, Rg.Fk, Rg.Ex, Fr.refl]
      exact ⟨_, _, _, _, rfl, _, _, rfl, h1', h2'⟩
    · simp [Rg.Yields, Act.eval, go_sem, Rg.Fk, Rg.Ex]
      refine (var_any w' [102]).mono ?_
      rintro e w2 ⟨rfl, h2⟩
      exact ⟨_, rfl, rfl, h2⟩
    · obtain ⟨h1, e2⟩ := hR
      obtain ⟨a1, c1, a2, c2, e1, h1'⟩ := h1
      simp [Rg.Yields, Act.eval, e1, e2, go_sem, Rg.Fk, Rg.Ex]
      refine (bind_any h1' (rd_atom w' _ 5 [102]) [102]).mono ?_
      rintro e w2 ⟨e', rfl, hrd, hg2⟩
      exact ⟨e', rfl, ftm_of hrd, hg2⟩
    · obtain ⟨⟨a0, b0, c0, d0, e0, r0⟩, ⟨a1, b1, c1, d1, e1, r1⟩, ⟨a2, b2, c2, d2, e2, r2⟩, ⟨a3, b3, c3, d3, e3, r3⟩, ⟨a4, b4, c4, d4, e4, r4⟩, e5, ⟨a6, b6, c6, d6, e6, r6⟩⟩ := hR
      simp [Rg.Yields, execOp, Act.eval, e0, e1, e2, e3, e4, e5, e6, go_sem, Rg.Fk, Rg.Ex]
      exact ⟨rows7 r0 r1 r2 r3 r4 r6, (Fr.refl _ _).alloc _⟩
  · intro w5 hS
    rintro v15 h15 _ rfl v17 h17 v18 h18 _ rfl _ rfl _ rfl v22 h22 v23 h23 _ rfl _ rfl _ rfl v27 h27 v28 h28 v29 h29 _ rfl _ rfl _ rfl v33 h33 v34 h34 _ rfl _ rfl v37 h37 v38 h38 _ rfl v40 h40 _ rfl v42 h42 v43 h43 _ rfl v45 h45 v46 h46 v6 h6
    refine Rg.Then.nil ?_
    clear h15 h17 h18 h22 h23 h27 h28 h29 h33 h34 h37 h38 h40 h42 h43 h45 h46
    have HL := hid h6
    have HS := hid hS
    obtain ⟨aL, cL, rfl, hL1, hL2⟩ := h6.shape
    replace hL2 : cL ≤ 9223372036854775807 := hL2
    clear h6 hS
    have hw7 : ∀ w, Calls Try.prog 38 #[.int .i64 n, .int .i64 7] w fun e w' => ∃ k : Nat, k < 7 ∧ e = .returned (Kv k) ∧ w = w' := fun w => wn 7 (by omega) (by omega) n w
    go_wp2_with (go_at_call 38; (with_reducible refine (hw7 _).mono ?_); rintro e w6 ⟨k, hk7, rfl, rfl⟩; clear hw7)
    obtain ⟨WB, hWB⟩ : ∃ q : World, q = (w5.alloc (.cells #[.string ⟨#[40, 108, 97, 109, 98, 100, 97, 32, 40, 120, 32, 121, 41, 32, 120, 41]⟩, .string ⟨#[40, 120, 32, 121, 32, 53, 41]⟩, .string ⟨#[40, 105, 102, 32, 35, 116, 32, 120, 32, 121, 41]⟩, .string ⟨#[40, 108, 101, 116, 32, 40, 40, 120, 32, 53, 41, 32, 40, 121, 32, 120, 41, 41, 32, 121, 41]⟩, .string ⟨#[40, 99, 111, 110, 115, 32, 53, 32, 40, 41, 41]⟩, .string ⟨#[39, 97]⟩, .string ⟨#[40, 108, 101, 116, 32, 40, 40, 102, 32, 40, 108, 97, 109, 98, 100, 97, 32, 40, 122, 41, 32, 120, 41, 41, 41, 32, 102, 41]⟩] 9)).alloc (.cells #[.string ⟨#[]⟩, .string ⟨#[120, 32, 121]⟩, .string ⟨#[120, 32, 121]⟩, .string ⟨#[]⟩, .string ⟨#[]⟩, .string ⟨#[]⟩, .string ⟨#[120]⟩] 9) := ⟨_, rfl⟩
    have g5B : Grew w5 WB := by rw [hWB]; exact ((Fr.refl _ _).alloc _).alloc _
    have hNW : Nm WB (fun _ => False) (.slice (some ⟨w5.heap.size, 0, none⟩) 7 7) ksW := by rw [hWB]; exact (nm_strs w5 ksW).grew ((Fr.refl _ _).alloc _)
    have hNF : Nm WB (fun _ => False) (.slice (some ⟨w5.heap.size + 1, 0, none⟩) 7 7) ksF := by
      rw [hWB]
      have := nm_strs (w5.alloc (.cells #[.string ⟨#[40, 108, 97, 109, 98, 100, 97, 32, 40, 120, 32, 121, 41, 32, 120, 41]⟩, .string ⟨#[40, 120, 32, 121, 32, 53, 41]⟩, .string ⟨#[40, 105, 102, 32, 35, 116, 32, 120, 32, 121, 41]⟩, .string ⟨#[40, 108, 101, 116, 32, 40, 40, 120, 32, 53, 41, 32, 40, 121, 32, 120, 41, 41, 32, 121, 41]⟩, .string ⟨#[40, 99, 111, 110, 115, 32, 53, 32, 40, 41, 41]⟩, .string ⟨#[39, 97]⟩, .string ⟨#[40, 108, 101, 116, 32, 40, 40, 102, 32, 40, 108, 97, 109, 98, 100, 97, 32, 40, 122, 41, 32, 120, 41, 41, 41, 32, 102, 41]⟩] 9)) ksF
      rw [show (w5.alloc (.cells #[.string ⟨#[40, 108, 97, 109, 98, 100, 97, 32, 40, 120, 32, 121, 41, 32, 120, 41]⟩, .string ⟨#[40, 120, 32, 121, 32, 53, 41]⟩, .string ⟨#[40, 105, 102, 32, 35, 116, 32, 120, 32, 121, 41]⟩, .string ⟨#[40, 108, 101, 116, 32, 40, 40, 120, 32, 53, 41, 32, 40, 121, 32, 120, 41, 41, 32, 121, 41]⟩, .string ⟨#[40, 99, 111, 110, 115, 32, 53, 32, 40, 41, 41]⟩, .string ⟨#[39, 97]⟩, .string ⟨#[40, 108, 101, 116, 32, 40, 40, 102, 32, 40, 108, 97, 109, 98, 100, 97, 32, 40, 122, 41, 32, 120, 41, 41, 41, 32, 102, 41]⟩] 9)).heap.size = w5.heap.size + 1 by simp] at this
      exact this
    rw [← hWB]
    clear hWB
    obtain ⟨x, f, hx, hxw, hxf, hfs, hfd, hfm, hok, hwk, hsz, hgf⟩ := known7 k hk7
    obtain ⟨hwo, hsm, hs1⟩ := wkB_ok x hwk
    have hrow : Row WB (fun _ => False) (.slice aL 7 cL) ks7 := Row.grew HL.out g5B
    obtain ⟨g, o, c, e, -, -, -, hel⟩ := (Row.elems hrow).resolve_left (by simp)
    simp only [Value.slice.injEq] at e
    obtain ⟨rfl, -, rfl⟩ := e
    obtain ⟨an, cn, aa, ca, he⟩ := hel k x hx
    have hrd : Rd WB (fun _ => False) (.agg #[Kv x.kind, St x.text, .slice an x.names.length cn, .slice aa x.parts.length ca]) x := ⟨_, _, rfl, he.nm, he.row⟩
    obtain ⟨_, _, _, e, -, -, -, hcw⟩ := hNW.row (by simp)
    simp only [Value.slice.injEq, Option.some.injEq, Addr.mk.injEq] at e
    obtain ⟨⟨rfl, rfl, -⟩, -, rfl⟩ := e
    obtain ⟨_, _, _, e, -, -, -, hcf⟩ := hNF.row (by simp)
    simp only [Value.slice.injEq, Option.some.injEq, Addr.mk.injEq] at e
    obtain ⟨⟨rfl, rfl, -⟩, -, rfl⟩ := e
    have HCW := hid (hcw k _ hxw)
    have HCF2 := hid (hcf k _ hxf)
    have HCE := hid (And.intro he.c0 (And.intro he.c1 (And.intro he.c2 he.c3)))
    have HTX := hid (fun (W' : World) (k : Grew WB W') => text_any hrd hwo W' k)
    have HFR := hid (fun (W' : World) (k : Grew WB W') => free_any (hrd.grew k) hsm (by omega))
    have HRI := hid (fun (W' : World) (k : Grew WB W') => by
      have := right_any7 (HGL.out.grew (HGA.out.trans (HS.out.trans g5B (fun _ _ f => f)) (fun _ _ f => f))) hrd hs1 W' k
      rwa [hok] at this)
    have HSE := hid (fun (ks : List Str) (h1 : ks.Nodup) (h2 : ∀ y, y ∈ ks ↔ y ∈ x.fv) => sorted_eq (srt ks) f (srt_sorted ks) hfs (srt_nodup h1) hfd (fun y => ((srt_mem ks y).trans (h2 y)).trans (hfm y).symm))
    have HGF := hid (show (gl f).length ≤ 1000000000000 by omega)
    have HGE := hid (HGA.out.trans (HS.out.trans g5B (fun _ _ f => f)) (fun _ _ f => f))
    have hk7' : (k : Int) < 7 := by omega
    clear hx hxw hxf hfs hfd hfm hok hwk hsz hgf hwo hsm hs1 hrow hel he hrd hcw hcf hNW hNF g5B HL HS HGA HGL HCX HCY HCF
    refine Rg.wp_region_facts 31 Grew [(53, Rg.Ex (.slice (some ⟨g, o, none⟩) 7 cL)), (54, Rg.Ex (.int .i64 (k : Int))), (55, Rg.Ex (.pointer (some ⟨g, o + k * 4, none⟩))), (56, Rg.Ex (.agg #[Kv x.kind, St x.text, .slice an x.names.length cn, .slice aa x.parts.length ca])), (57, Rg.Ex (St x.tx)), (58, Rg.Ex (.slice (some ⟨w5.heap.size, 0, none⟩) 7 7)), (59, Rg.Ex (.int .i64 (k : Int))), (60, Rg.Ex (.pointer (some ⟨w5.heap.size, k, none⟩))), (61, Rg.Ex (St x.tx)), (62, Rg.Ex (.bool true)), (63, Rg.Ex (.bool true)), (64, Rg.Ex (.slice (some ⟨g, o, none⟩) 7 cL)), (65, Rg.Ex (.int .i64 (k : Int))), (66, Rg.Ex (.pointer (some ⟨g, o + k * 4, none⟩))), (67, Rg.Ex (.agg #[Kv x.kind, St x.text, .slice an x.names.length cn, .slice aa x.parts.length ca])), (68, FNm f), (69, Rg.Ex (St (gl f))), (70, Rg.Ex (.slice (some ⟨w5.heap.size + 1, 0, none⟩) 7 7)), (71, Rg.Ex (.int .i64 (k : Int))), (72, Rg.Ex (.pointer (some ⟨w5.heap.size + 1, k, none⟩))), (73, Rg.Ex (St (gl f))), (74, Rg.Ex (.bool true)), (75, Rg.Ex (.bool true)), (76, Rg.Ex (.bool true)), (77, Rg.Ex (.slice (some ⟨g, o, none⟩) 7 cL)), (78, Rg.Ex (.int .i64 (k : Int))), (79, Rg.Ex (.pointer (some ⟨g, o + k * 4, none⟩))), (80, Rg.Ex (.agg #[Kv x.kind, St x.text, .slice an x.names.length cn, .slice aa x.parts.length ca])), (81, Rg.Ex (.bool true)), (82, Rg.Ex (.bool true)), (2, Rg.Ex (.bool true))] (by kernel_rfl) (by kernel_rfl) (by rfl) (by rfl)
      (fun a => Fr.refl _ a) (fun a b c h k => h.trans k (fun _ _ f => f)) (Fr.refl _ _).drew
      (Rg.Stays.all ⟨Rg.Ex.stays _, Rg.Ex.stays _, Rg.Ex.stays _, Rg.Ex.stays _, Rg.Ex.stays _, Rg.Ex.stays _, Rg.Ex.stays _, Rg.Ex.stays _, Rg.Ex.stays _, Rg.Ex.stays _, Rg.Ex.stays _, Rg.Ex.stays _, Rg.Ex.stays _, Rg.Ex.stays _, Rg.Ex.stays _, FNm.stays _, Rg.Ex.stays _, Rg.Ex.stays _, Rg.Ex.stays _, Rg.Ex.stays _, Rg.Ex.stays _, Rg.Ex.stays _, Rg.Ex.stays _, Rg.Ex.stays _, Rg.Ex.stays _, Rg.Ex.stays _, Rg.Ex.stays _, Rg.Ex.stays _, Rg.Ex.stays _, Rg.Ex.stays _, Rg.Ex.stays _, trivial⟩) ?_ ?_
    · go_light
      refine Rg.OpGoals.cons (Rg.OpGoal.plain rfl ?_) (Rg.OpGoals.cons (Rg.OpGoal.plain rfl ?_) (Rg.OpGoals.cons (Rg.OpGoal.plain rfl ?_) (Rg.OpGoals.cons (Rg.OpGoal.plain rfl ?_) (Rg.OpGoals.cons (Rg.OpGoal.plain rfl ?_) (Rg.OpGoals.cons (Rg.OpGoal.plain rfl ?_) (Rg.OpGoals.cons (Rg.OpGoal.plain rfl ?_) (Rg.OpGoals.cons (Rg.OpGoal.plain rfl ?_) (Rg.OpGoals.cons (Rg.OpGoal.plain rfl ?_) (Rg.OpGoals.cons (Rg.OpGoal.plain rfl ?_) (Rg.OpGoals.cons (Rg.OpGoal.plain rfl ?_) (Rg.OpGoals.cons (Rg.OpGoal.guarded (d := 63) (want := true) rfl (fun _ _ h => h) ?_) (Rg.OpGoals.cons (Rg.OpGoal.guarded (d := 63) (want := true) rfl (fun _ _ h => h) ?_) (Rg.OpGoals.cons (Rg.OpGoal.guarded (d := 63) (want := true) rfl (fun _ _ h => h) ?_) (Rg.OpGoals.cons (Rg.OpGoal.guarded (d := 63) (want := true) rfl (fun _ _ h => h) ?_) (Rg.OpGoals.cons (Rg.OpGoal.guarded (d := 63) (want := true) rfl (fun _ _ h => h) ?_) (Rg.OpGoals.cons (Rg.OpGoal.guarded (d := 63) (want := true) rfl (fun _ _ h => h) ?_) (Rg.OpGoals.cons (Rg.OpGoal.guarded (d := 63) (want := true) rfl (fun _ _ h => h) ?_) (Rg.OpGoals.cons (Rg.OpGoal.guarded (d := 63) (want := true) rfl (fun _ _ h => h) ?_) (Rg.OpGoals.cons (Rg.OpGoal.guarded (d := 63) (want := true) rfl (fun _ _ h => h) ?_) (Rg.OpGoals.cons (Rg.OpGoal.guarded (d := 63) (want := true) rfl (fun _ _ h => h) ?_) (Rg.OpGoals.cons (Rg.OpGoal.guarded (d := 63) (want := true) rfl (fun _ _ h => h) ?_) (Rg.OpGoals.cons (Rg.OpGoal.plain rfl ?_) (Rg.OpGoals.cons (Rg.OpGoal.plain rfl ?_) (Rg.OpGoals.cons (Rg.OpGoal.guarded (d := 76) (want := true) rfl (fun _ _ h => h) ?_) (Rg.OpGoals.cons (Rg.OpGoal.guarded (d := 76) (want := true) rfl (fun _ _ h => h) ?_) (Rg.OpGoals.cons (Rg.OpGoal.guarded (d := 76) (want := true) rfl (fun _ _ h => h) ?_) (Rg.OpGoals.cons (Rg.OpGoal.guarded (d := 76) (want := true) rfl (fun _ _ h => h) ?_) (Rg.OpGoals.cons (Rg.OpGoal.guarded (d := 76) (want := true) rfl (fun _ _ h => h) ?_) (Rg.OpGoals.cons (Rg.OpGoal.plain rfl ?_) (Rg.OpGoals.cons (Rg.OpGoal.plain rfl ?_) Rg.OpGoals.none))))))))))))))))))))))))))))))
      all_goals (intro a' w' hS hR; simp [Rg.Rd, Op.operands, Call.operands, Rg.Fk, Rg.Ex] at hR)
      all_goals (have c0' := hS.cell HCE.out.1 (fun f => f))
      all_goals (have c1' := hS.cell HCE.out.2.1 (fun f => f))
      all_goals (have c2' := hS.cell HCE.out.2.2.1 (fun f => f))
      all_goals (have c3' := hS.cell HCE.out.2.2.2 (fun f => f))
      all_goals (have sw' := (by have := hS.cell HCW.out (fun f => f); rwa [Nat.zero_add] at this : w'.cell? ⟨w5.heap.size, k, none⟩ = some (St x.tx)))
      all_goals (have sf' := (by have := hS.cell HCF2.out (fun f => f); rwa [Nat.zero_add] at this : w'.cell? ⟨w5.heap.size + 1, k, none⟩ = some (St (gl f))))
      all_goals try (simp [Rg.Yields, execOp, Act.eval, hR, c0', c1', c2', c3', sw', sf', hk7', go_sem, Rg.Fk, Rg.Ex, Fr.refl]; done)
      · simp [Rg.Yields, Act.eval, hR, go_sem, Rg.Fk, Rg.Ex]
        refine (HTX.out _ hS).mono ?_
        rintro e w2 ⟨rfl, hg2⟩
        exact ⟨_, rfl, rfl, hg2⟩
      · simp [Rg.Yields, Act.eval, hR, go_sem, Rg.Fk, Rg.Ex]
        refine (HFR.out _ hS).mono ?_
        rintro e w2 ⟨v, ks, rfl, k1, k2, k3, k4⟩
        rw [HSE.out ks k2 k3] at k1
        exact ⟨v, rfl, (nm_of_rt k1).mono (fun (_ : Nat) _ (f : False) => f.elim), k4⟩
      · have h1 : FNm f _ _ := hR
        obtain ⟨a1, c1, e1, -⟩ := h1.shape
        unfold FNm at h1
        rw [e1] at h1
        simp [Rg.Yields, Act.eval, e1, go_sem, Rg.Fk, Rg.Ex]
        refine (refnames_any h1 HGF.out w' (Fr.refl _ _)).mono ?_
        rintro e w2 ⟨rfl, hg2⟩
        exact ⟨_, rfl, rfl, hg2⟩
      · simp [Rg.Yields, Act.eval, hR, go_sem, Rg.Fk, Rg.Ex]
        refine (HRI.out _ hS).mono ?_
        rintro e w2 ⟨rfl, hg2⟩
        exact ⟨_, rfl, rfl, hg2⟩
    · intro w7 hS
      rintro _ rfl _ rfl _ rfl _ rfl _ rfl _ rfl _ rfl _ rfl _ rfl _ rfl _ rfl _ rfl _ rfl _ rfl _ rfl v68 h68 _ rfl _ rfl _ rfl _ rfl _ rfl _ rfl _ rfl _ rfl _ rfl _ rfl _ rfl _ rfl _ rfl _ rfl _ rfl
      refine Rg.Then.nil ?_
      clear h68
      have HS := hid hS
      clear hS
      go_wp2
      go_ret
      exact ⟨rfl, HGE.out.trans HS.out (fun _ _ f => f)⟩
end Go.Proofs.Ytddcfnjmppijjaa
