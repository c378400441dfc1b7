import Derived.Test.YtjhdnbediipibaaC3
/-! The document's heap (thunkref11): how it lies in memory; its readers. -/
namespace Go.Proofs.Ytjhdnbediipibaa
open Go.RowKit

def PO.holdsR (w : World) (x : PO) : Prop :=
  w.heap[x.ob]? = some (.cells #[Kv x.at', Kv x.o.tag, x.pv, x.nv] 89 (0, 0)) ∧ Ow w x.pv x.o.ptrs ∧ Ow w x.nv x.o.nums
def PO.ptr (x : PO) : Value := .pointer (some ⟨x.ob, 0, none⟩)

/-- at xb lies the document's heap A: its row, its objects -/
structure RX (w : World) (xb : Nat) (A : AH) (fp : List Nat) (lv : Value) (xs : List PO) : Prop where
  top : w.heap[xb]? = some (.cells #[Kv A.words, Kv A.used, lv] 84 (0, 0))
  row : Rw 86 w lv (xs.map PO.ptr)
  objs : A.objs = xs.map PO.pair
  each : ∀ x ∈ xs, x.holdsR w
  blocks : fp = xb :: (lv.ownBlock.toList ++ xs.flatMap PO.blocks)
  nodup : fp.Nodup
def RH (w : World) (xb : Nat) (A : AH) (fp : List Nat) : Prop := ∃ lv xs, RX w xb A fp lv xs

theorem PO.holdsR.kept {w w' : World} {F : Nat → Prop} {x : PO} (h : x.holdsR w) (k : Fr F w w') (hF : ∀ b ∈ x.blocks, ¬ F b) : x.holdsR w' := by
  obtain ⟨h1, h2, h3⟩ := h
  refine ⟨k.get h1 (hF _ (by simp [PO.blocks])), h2.kept k (fun g hg => hF g ?_), h3.kept k (fun g hg => hF g ?_)⟩ <;> simp [PO.blocks, hg]

theorem PO.holdsR.lt {w : World} {x : PO} (h : x.holdsR w) : ∀ b ∈ x.blocks, b < w.heap.size := by
  obtain ⟨h1, h2, h3⟩ := h
  intro b hb
  simp only [PO.blocks, List.mem_cons, List.mem_append, Option.mem_toList] at hb
  rcases hb with rfl | hb | hb
  · exact lt_of_get h1
  · exact h2.lt hb
  · exact h3.lt hb

theorem RX.kept {w w' : World} {F : Nat → Prop} {xb : Nat} {A : AH} {fp : List Nat} {lv : Value} {xs : List PO} (h : RX w xb A fp lv xs) (k : Fr F w w') (hF : ∀ b ∈ fp, ¬ F b) : RX w' xb A fp lv xs := by
  obtain ⟨h1, h2, h3, h4, rfl, h6⟩ := h
  refine ⟨k.get h1 (hF _ (by simp)), h2.kept k (fun g hg => hF g (by simp [hg])), h3, fun x hx => (h4 x hx).kept k (fun b hb => hF b ?_), rfl, h6⟩
  simp only [List.mem_cons, List.mem_append, List.mem_flatMap]
  exact .inr (.inr ⟨x, hx, hb⟩)
theorem RH.kept {w w' : World} {F : Nat → Prop} {xb : Nat} {A : AH} {fp : List Nat} (h : RH w xb A fp) (k : Fr F w w') (hF : ∀ b ∈ fp, ¬ F b) : RH w' xb A fp := by
  obtain ⟨lv, xs, h⟩ := h
  exact ⟨lv, xs, h.kept k hF⟩
theorem RH.grew {w w' : World} {xb : Nat} {A : AH} {fp : List Nat} (h : RH w xb A fp) (k : Grew w w') : RH w' xb A fp := h.kept k (fun _ _ f => f)
theorem RH.lt {w : World} {xb : Nat} {A : AH} {fp : List Nat} (h : RH w xb A fp) : ∀ b ∈ fp, b < w.heap.size := by
  obtain ⟨lv, xs, h1, h2, h3, h4, rfl, h6⟩ := h
  intro b hb
  simp only [List.mem_cons, List.mem_append, List.mem_flatMap, Option.mem_toList] at hb
  rcases hb with rfl | hb | ⟨x, hx, hbx⟩
  · exact lt_of_get h1
  · exact h2.lt hb
  · exact (h4 x hx).lt b hbx
theorem RH.mem {w : World} {xb : Nat} {A : AH} {fp : List Nat} (h : RH w xb A fp) : xb ∈ fp := by
  obtain ⟨lv, xs, h⟩ := h
  rw [h.blocks]; simp

def lookP (k : Int) : List PO → Option PO
  | [] => none
  | x :: r => if k = x.at' then some x else lookP k r
theorem lookP_cons (k : Int) (x : PO) (r : List PO) : lookP k (x :: r) = if k = x.at' then some x else lookP k r := rfl
theorem lookP_obj (k : Int) : ∀ xs : List PO, lookO k (xs.map PO.pair) = (lookP k xs).map (·.o)
  | [] => rfl
  | x :: r => by
    unfold lookP
    by_cases h : k = x.at'
    · simp [lookO, PO.pair, h]
    · simp only [List.map_cons, lookO, PO.pair, h, if_false]; exact lookP_obj k r
theorem lookP_mem {k : Int} {x : PO} : ∀ {xs : List PO}, lookP k xs = some x → x ∈ xs ∧ x.at' = k
  | [], h => by simp [lookP] at h
  | y :: r, h => by
    unfold lookP at h
    split at h
    · rename_i hk; cases h; exact ⟨by simp, hk.symm⟩
    · obtain ⟨h1, h2⟩ := lookP_mem h; exact ⟨by simp [h1], h2⟩
def ptrOf : Option PO → Value
  | none => .pointer none
  | some x => x.ptr
theorem RX.find {w : World} {xb : Nat} {A : AH} {fp : List Nat} {lv : Value} {xs : List PO} (h : RX w xb A fp lv xs) (k : Int) : A.find k = (lookP k xs).map (·.o) := by
  rw [AH.find, h.objs]; exact lookP_obj k xs
theorem RX.len {w : World} {xb : Nat} {A : AH} {fp : List Nat} {lv : Value} {xs : List PO} (h : RX w xb A fp lv xs) : xs.length = A.objs.length := by rw [h.objs]; simp

theorem cells_rb {w : World} {ob : Nat} {k t : Int} {pv nv : Value} (h : w.heap[ob]? = some (.cells #[Kv k, Kv t, pv, nv] 89 (0, 0))) :
    w.cell? ⟨ob, 0, none⟩ = some (Kv k) ∧ w.cell? ⟨ob, 1, none⟩ = some (Kv t) ∧ w.cell? ⟨ob, 2, none⟩ = some pv ∧ w.cell? ⟨ob, 3, none⟩ = some nv := by
  refine ⟨?_, ?_, ?_, ?_⟩ <;> rw [cell_of_get h] <;> rfl
theorem RX.cells {w : World} {xb : Nat} {A : AH} {fp : List Nat} {lv : Value} {xs : List PO} (h : RX w xb A fp lv xs) :
    w.cell? ⟨xb, 0, none⟩ = some (Kv A.words) ∧ w.cell? ⟨xb, 1, none⟩ = some (Kv A.used) ∧ w.cell? ⟨xb, 2, none⟩ = some lv := by
  refine ⟨?_, ?_, ?_⟩ <;> rw [cell_of_get h.top] <;> rfl
/-- the row's cells -/
theorem RX.at {w : World} {xb : Nat} {A : AH} {fp : List Nat} {lv : Value} {xs : List PO} (h : RX w xb A fp lv xs) :
    ∃ la lc, lv = .slice la xs.length lc ∧ xs.length ≤ lc ∧ lc ≤ maxLen ∧ ∀ i (hi : i < xs.length), ∃ g, la = some ⟨g, 0, none⟩ ∧ w.cell? ⟨g, i, none⟩ = some xs[i].ptr := by
  obtain ⟨la, lc, e, h1, h2⟩ := h.row.shape
  rw [List.length_map] at e h1
  refine ⟨la, lc, e, h1, h2, fun i hi => ?_⟩
  obtain ⟨g, cap, e2, _, _, _, hc⟩ := h.row.at (by simp; omega)
  rw [e, List.length_map] at e2
  simp only [Value.slice.injEq] at e2
  obtain ⟨rfl, _, rfl⟩ := e2
  exact ⟨g, rfl, by have := (hc i (by simpa using hi)).1; simpa using this⟩

set_option maxRecDepth 100000 in
theorem rfind {w : World} {xb : Nat} {A : AH} {fp : List Nat} {lv : Value} {xs : List PO} (h : RX w xb A fp lv xs) (hlen : A.objs.length ≤ 1000000) (k : Int) :
    Calls Try.prog 62 #[.pointer (some ⟨xb, 0, none⟩), .int .i64 k] w fun e w' => e = .returned (ptrOf (lookP k xs)) ∧ w = w' := by
  rw [← h.len] at hlen
  obtain ⟨_, _, hc2⟩ := h.cells
  obtain ⟨la, lc, rfl, hlc, _, hat⟩ := h.at
  have HC := hid (fun i (hi : i < xs.length) => (show ∃ g, la = some ⟨g, 0, none⟩ ∧ w.cell? ⟨g, i, none⟩ = some (.pointer (some ⟨xs[i].ob, 0, none⟩)) ∧ w.cell? ⟨xs[i].ob, 0, none⟩ = some (Kv xs[i].at') from by
    obtain ⟨g, h1, h2⟩ := hat i hi
    exact ⟨g, h1, h2, (cells_rb (h.each _ (List.getElem_mem hi)).1).1⟩))
  clear h hat
  go_enter Try.func62, Try.ntmps62
  go_wp2
  go_loop [5] (fun i => ∃ n : Nat, n ≤ xs.length ∧ i = .int .i64 n ∧ lookP k (xs.drop n) = lookP k xs) (fun i => xs.length - (intOf i).toNat)
  case atStart => exact ⟨0, Nat.zero_le _, rfl, rfl⟩
  case round =>
    obtain ⟨n, hn, rfl, hq⟩ := hrel
    by_cases hlt : n < xs.length
    · obtain ⟨g, rfl, hc, ha⟩ := HC.out n hlt
      rw [List.drop_eq_getElem_cons hlt] at hq
      rw [lookP_cons] at hq
      generalize xs[n] = x at *
      by_cases hk : x.at' = k
      · rw [if_pos hk.symm] at hq
        have hb : (x.at' == k) = true := by simpa using hk
        have HE := hid hq
        clear hq hk
        go_wp2
        go_ret
        exact ⟨by rw [← HE.out]; rfl, rfl⟩
      · rw [if_neg (fun e => hk e.symm)] at hq
        have hb : (x.at' == k) = false := by simpa using hk
        have HE := hid hq
        clear hq hk
        go_wp2
        go_round
        case rel => exact ⟨n + 1, by omega, by go_num, HE.out⟩
        case measure => simp [intOf]; omega
    · have hne : n = xs.length := by omega
      subst hne
      rw [List.drop_length] at hq
      have HE := hid hq
      clear hq
      go_wp2
      go_ret
      exact ⟨by rw [← HE.out]; rfl, rfl⟩

theorem rused_any {w : World} {xb : Nat} {A : AH} {fp : List Nat} (h : RH w xb A fp) :
    Calls Try.prog 58 #[.pointer (some ⟨xb, 0, none⟩)] w fun e w' => e = .returned (Kv A.used) ∧ w = w' := by
  obtain ⟨lv, xs, h⟩ := h
  obtain ⟨_, hc, _⟩ := h.cells
  clear h
  go_enter Try.func58, Try.ntmps58
  go_wp2
  go_ret
  exact ⟨rfl, rfl⟩
theorem rwords_any {w : World} {xb : Nat} {A : AH} {fp : List Nat} (h : RH w xb A fp) :
    Calls Try.prog 59 #[.pointer (some ⟨xb, 0, none⟩)] w fun e w' => e = .returned (Kv A.words) ∧ w = w' := by
  obtain ⟨lv, xs, h⟩ := h
  obtain ⟨hc, _, _⟩ := h.cells
  clear h
  go_enter Try.func59, Try.ntmps59
  go_wp2
  go_ret
  exact ⟨rfl, rfl⟩
theorem rtag_any {w : World} {xb : Nat} {A : AH} {fp : List Nat} (h : RH w xb A fp) (hlen : A.objs.length ≤ 1000000) (k : Int) :
    Calls Try.prog 43 #[.pointer (some ⟨xb, 0, none⟩), .int .i64 k] w fun e w' => e = .returned (Kv (A.tag k)) ∧ w = w' := by
  obtain ⟨lv, xs, h⟩ := h
  have hg := rfind h hlen k
  have hf := h.find k
  cases hl : lookP k xs with
  | none =>
    rw [hl] at hg hf
    have ht : A.tag k = 0 := by simp [AH.tag, hf]
    rw [ht]; clear h hf ht hl
    simp only [ptrOf] at hg
    go_enter Try.func43, Try.ntmps43
    go_wp2_with (go_at_call 62; refine hg.mono ?_; rintro e w' ⟨rfl, rfl⟩)
    go_ret
    exact ⟨rfl, rfl⟩
  | some x =>
    rw [hl] at hg hf
    have ht : A.tag k = x.o.tag := by simp [AH.tag, hf]
    have hc := (cells_rb (h.each x (lookP_mem hl).1).1).2.1
    rw [ht]; clear h hf ht hl
    simp only [ptrOf, PO.ptr] at hg
    go_enter Try.func43, Try.ntmps43
    go_wp2_with (go_at_call 62; refine hg.mono ?_; rintro e w' ⟨rfl, rfl⟩)
    go_ret
    exact ⟨rfl, rfl⟩

/-- append([]int{}, u...) -/
theorem app_fresh {w : World} {u : Value} {m : List Int} (k : Ow w u m) (hb : m.length ≤ 17592186044416) (ty : TypeId) :
    ∃ v' w', (Builtin.append_ #[22, 22] ty #[.slice (some ⟨w.heap.size, 0, none⟩) 0 0, u]).run Try.prog (w.alloc (.cells #[] 3)) = .ok v' w' ∧ Ow w' v' m ∧ Grew w w' ∧ (∀ g, v'.ownBlock = some g → w.heap.size ≤ g) := by
  obtain ⟨v', w', h1, h2, h3, h4⟩ := app_ow (Ow.empty w) (k.kept (Grew.alloc w (.cells #[] 3)) (fun _ _ f => f)) (by simpa using hb) ty
  refine ⟨v', w', h1, by simpa using h2, (Grew.alloc w (.cells #[] 3)).trans h3 (fun i hi f => by simp [Value.ownBlock] at f; omega), fun g hg => ?_⟩
  rcases h4 g hg with h | h
  · simp [Value.ownBlock] at h; omega
  · simp at h; omega

set_option maxRecDepth 100000 in
theorem rptrs_any {w : World} {xb : Nat} {A : AH} {fp : List Nat} (h : RH w xb A fp) (hlen : A.objs.length ≤ 1000000) (k : Int) (hl : (A.ptrs k).length ≤ 17592186044416) :
    Calls Try.prog 60 #[.pointer (some ⟨xb, 0, none⟩), .int .i64 k] w (NewRow w (A.ptrs k)) := by
  obtain ⟨lv, xs, h⟩ := h
  have hg := rfind h hlen k
  have hf := h.find k
  cases hlk : lookP k xs with
  | none =>
    rw [hlk] at hg hf
    have ht : A.ptrs k = [] := by simp [AH.ptrs, hf]
    rw [ht]; clear h hf ht hlk hl
    simp only [ptrOf] at hg
    go_enter Try.func60, Try.ntmps60
    go_wp2_with (go_at_call 62; refine hg.mono ?_; rintro e w' ⟨rfl, rfl⟩)
    go_ret
    exact ⟨_, rfl, Ow.nil _, Fr.refl _ _, by simp [Value.ownBlock]⟩
  | some x =>
    rw [hlk] at hg hf
    have ht : A.ptrs k = x.o.ptrs := by simp [AH.ptrs, hf]
    have hx := h.each x (lookP_mem hlk).1
    have hc := (cells_rb hx.1).2.2.1
    have hc' := keep_alloc (.cells #[] 3) hc
    rw [ht] at hl ⊢
    obtain ⟨v', w1, hr, h2⟩ := app_fresh hx.2.1 hl 22
    have HR := hid hr
    have H := hid h2
    clear h hf ht hlk hl hr h2 hx
    simp only [ptrOf, PO.ptr] at hg
    go_enter Try.func60, Try.ntmps60
    go_wp2_with (first | (go_at_call 62; refine hg.mono ?_; rintro e w' ⟨rfl, rfl⟩) | (at_builtin; refine wpList_app rfl rfl rfl rfl HR.out ?_))
    go_ret
    exact ⟨v', rfl, H.out⟩
set_option maxRecDepth 100000 in
theorem rnums_any {w : World} {xb : Nat} {A : AH} {fp : List Nat} (h : RH w xb A fp) (hlen : A.objs.length ≤ 1000000) (k : Int) (hl : (A.nums k).length ≤ 17592186044416) :
    Calls Try.prog 61 #[.pointer (some ⟨xb, 0, none⟩), .int .i64 k] w (NewRow w (A.nums k)) := by
  obtain ⟨lv, xs, h⟩ := h
  have hg := rfind h hlen k
  have hf := h.find k
  cases hlk : lookP k xs with
  | none =>
    rw [hlk] at hg hf
    have ht : A.nums k = [] := by simp [AH.nums, hf]
    rw [ht]; clear h hf ht hlk hl
    simp only [ptrOf] at hg
    go_enter Try.func61, Try.ntmps61
    go_wp2_with (go_at_call 62; refine hg.mono ?_; rintro e w' ⟨rfl, rfl⟩)
    go_ret
    exact ⟨_, rfl, Ow.nil _, Fr.refl _ _, by simp [Value.ownBlock]⟩
  | some x =>
    rw [hlk] at hg hf
    have ht : A.nums k = x.o.nums := by simp [AH.nums, hf]
    have hx := h.each x (lookP_mem hlk).1
    have hc := (cells_rb hx.1).2.2.2
    have hc' := keep_alloc (.cells #[] 3) hc
    rw [ht] at hl ⊢
    obtain ⟨v', w1, hr, h2⟩ := app_fresh hx.2.2 hl 22
    have HR := hid hr
    have H := hid h2
    clear h hf ht hlk hl hr h2 hx
    simp only [ptrOf, PO.ptr] at hg
    go_enter Try.func61, Try.ntmps61
    go_wp2_with (first | (go_at_call 62; refine hg.mono ?_; rintro e w' ⟨rfl, rfl⟩) | (at_builtin; refine wpList_app rfl rfl rfl rfl HR.out ?_))
    go_ret
    exact ⟨v', rfl, H.out⟩

theorem rnew_any (a : Int) (w : World) :
    Calls Try.prog 40 #[.int .i64 a] w fun e w' => ∃ xb fp, e = .returned (.pointer (some ⟨xb, 0, none⟩)) ∧ RH w' xb ⟨[], 0, a⟩ fp ∧ Grew w w' ∧ (∀ b ∈ fp, w.heap.size ≤ b) := by
  have hrh : RH (w.alloc (.cells #[.int .i64 a, .int .i64 0, .slice none 0 0] 84)) w.heap.size ⟨[], 0, a⟩ [w.heap.size] :=
    ⟨.slice none 0 0, [], heap_alloc_new w _, Rw.nil _ _, rfl, by simp, by simp [Value.ownBlock], by simp⟩
  have H := hid (And.intro hrh (Grew.alloc w (.cells #[.int .i64 a, .int .i64 0, .slice none 0 0] 84)))
  clear hrh
  go_enter Try.func40, Try.ntmps40
  go_wp2
  go_ret
  exact ⟨_, _, rfl, H.out.1, H.out.2, by simp⟩

/-- the addresses -/
def AH.keys (A : AH) : List Int := A.objs.map (·.1)

set_option maxRecDepth 100000 in
theorem robjects_any {w : World} {xb : Nat} {A : AH} {fp : List Nat} (h : RH w xb A fp) (hlen : A.objs.length ≤ 1000000) :
    Calls Try.prog 52 #[.pointer (some ⟨xb, 0, none⟩)] w (NewRow w A.keys) := by
  obtain ⟨lv, xs, h⟩ := h
  rw [← h.len] at hlen
  obtain ⟨_, _, hc2⟩ := h.cells
  obtain ⟨la, lc, rfl, hlc, _, hat⟩ := h.at
  have hkeys : A.keys = xs.map (·.at') := by rw [AH.keys, h.objs]; simp [PO.pair]
  rw [hkeys]
  have HC := hid (fun i (hi : i < xs.length) => (show ∃ g, la = some ⟨g, 0, none⟩ ∧ w.cell? ⟨g, i, none⟩ = some (.pointer (some ⟨xs[i].ob, 0, none⟩)) ∧ w.cell? ⟨xs[i].ob, 0, none⟩ = some (Kv xs[i].at') from by
    obtain ⟨g, h1, h2⟩ := hat i hi
    exact ⟨g, h1, h2, (cells_rb (h.each _ (List.getElem_mem hi)).1).1⟩))
  have HC2 := hid hc2
  clear h hat hkeys hc2
  go_enter Try.func52, Try.ntmps52
  go_wp2
  go_loopw [3, 4] (fun v i wr => ∃ n : Nat, n ≤ xs.length ∧ i = .int .i64 n ∧ Ow wr v ((xs.take n).map (·.at')) ∧ Grew w wr ∧ (∀ g, v.ownBlock = some g → w.heap.size ≤ g)) (fun _ i _ => xs.length - (intOf i).toNat)
  case atStart => exact ⟨0, Nat.zero_le _, rfl, Ow.nil _, Fr.refl _ _, by simp [Value.ownBlock]⟩
  case round =>
    obtain ⟨n, hn, rfl, r1, r2, r3⟩ := hrel
    have hc2 := r2.cell HC2.out (fun f => f)
    by_cases hlt : n < xs.length
    · obtain ⟨g, rfl, hc, ha⟩ := HC.out n hlt
      replace hc := r2.cell hc (fun f => f)
      replace ha := r2.cell ha (fun f => f)
      obtain ⟨v', w', happ, h2, h3, h4⟩ := app_ow (r1.kept (Grew.alloc wr (.cells #[.int .i64 xs[n].at'] 3)) (fun _ _ f => f)) (Ow.one wr xs[n].at') (by simp; omega) 22
      have hg2 : Grew w w' := grew_step (r2.trans (Grew.alloc wr (.cells #[.int .i64 xs[n].at'] 3)) (fun _ _ f => f)) h3 (fun i hi => r3 i hi)
      have hl2 : (xs.take n).map (·.at') ++ [xs[n].at'] = (xs.take (n + 1)).map (·.at') := by
        rw [List.take_succ_eq_append_getElem hlt, List.map_append]; rfl
      rw [hl2] at h2
      have H := hid (And.intro h2 (And.intro hg2 (show ∀ g, v'.ownBlock = some g → w.heap.size ≤ g from fun g hg => by
        have := r2.size
        rcases h4 g hg with e | e
        · exact r3 g e
        · simp at e; omega)))
      have HAPP := hid happ
      clear happ h2 h3 h4 hg2 hl2 r1 r2 r3
      generalize xs[n] = x at *
      go_wp2_with (at_builtin; refine wpList_app rfl rfl rfl rfl HAPP.out ?_)
      go_roundw
      case rel => exact ⟨n + 1, by omega, by go_num, H.out⟩
      case measure => simp [intOf]; omega
    · have hne : n = xs.length := by omega
      subst hne
      rw [List.take_length] at r1
      have H := hid (And.intro r1 (And.intro r2 r3))
      clear r1 r2 r3
      go_wp2
      go_ret
      exact ⟨_, rfl, H.out⟩

set_option maxRecDepth 100000 in
theorem rfollow_any {w : World} {xb : Nat} {A : AH} {fp : List Nat} (h : RH w xb A fp) (hS : A.Shaped) (hlen : A.objs.length ≤ 1000000) (k : Int) :
    Calls Try.prog 44 #[.pointer (some ⟨xb, 0, none⟩), .int .i64 k] w fun e w' => e = .returned (Kv (A.follow k)) ∧ w = w' := by
  obtain ⟨lv, xs, h⟩ := h
  have hg := fun k => rfind h hlen k
  have HG := hid hg
  have hfol : A.follow k = A.followN (xs.length + 1) k := by unfold AH.follow; rw [h.len]
  rw [← h.len] at hlen
  obtain ⟨_, _, hc2⟩ := h.cells
  obtain ⟨la, lc, rfl, hlc, _, _⟩ := h.at
  rw [hfol]
  have Hx := hid h
  have HS := hid hS
  clear h hS hfol hg
  have hg1 := HG.out k
  obtain ⟨r0, hr0⟩ : ∃ r0, ptrOf (lookP k xs) = r0 := ⟨_, rfl⟩
  rw [hr0] at hg1
  have HR0 := hid hr0
  clear hr0
  go_enter Try.func44, Try.ntmps44
  go_wp2_with (go_at_call 62; refine hg1.mono ?_; rintro e w' ⟨rfl, rfl⟩)
  clear hg1
  go_loop [5, 6] (fun o n => ∃ (i : Nat) (q : Int), i ≤ xs.length + 1 ∧ n = .int .i64 i ∧ o = ptrOf (lookP q xs) ∧ A.followN (xs.length + 1 - i) q = A.followN (xs.length + 1) k) (fun _ n => xs.length + 1 - (intOf n).toNat)
  case atStart => exact ⟨0, k, by omega, rfl, HR0.out.symm, rfl⟩
  case round =>
    obtain ⟨i, q, hi, rfl, rfl, hq⟩ := hrel
    have hf := Hx.out.find q
    by_cases hle : i ≤ xs.length
    · cases hlk : lookP q xs with
      | none =>
        rw [hlk] at hf
        have e1 : A.followN (xs.length + 1) k = -1 := by
          rw [← hq, show xs.length + 1 - i = (xs.length - i) + 1 from by omega]
          simp at hf
          simp [AH.followN, hf]
        have HE := hid e1
        clear e1 hq hf hlk
        simp only [ptrOf]
        go_wp2
        go_ret
        exact ⟨by rw [HE.out]; rfl, rfl⟩
      | some x =>
        rw [hlk] at hf
        simp only [Option.map_some] at hf
        obtain ⟨hxm, hxa⟩ := lookP_mem hlk
        have hx := Hx.out.each x hxm
        obtain ⟨ca, ct, cp, _⟩ := cells_rb hx.1
        rw [hxa] at ca
        by_cases h5 : x.o.tag = 5
        · have hsh := (HS.out.find hf).2.2.2.2.2.1 h5
          obtain ⟨z, hz⟩ : ∃ z, x.o.ptrs = [z] := List.length_eq_one_iff.1 hsh.1
          have hp := hx.2.1
          rw [hz] at hp
          obtain ⟨g, cap, hpv, hc1, hc2', _, hcell⟩ := hp.at (by simp)
          rw [hpv] at cp
          have hc0 : w.cell? ⟨g, 0, none⟩ = some (Kv z) := (hcell 0 (by simp)).1
          have e1 : A.followN (xs.length + 1) k = A.followN (xs.length + 1 - (i + 1)) z := by
            rw [← hq, show xs.length + 1 - i = (xs.length - i) + 1 from by omega]
            simp only [AH.followN, hf, h5, if_true, hz]
            rw [show xs.length + 1 - (i + 1) = xs.length - i from by omega]
            rfl
          rw [h5] at ct
          have HE := hid e1
          have hgz := HG.out z
          clear e1 hq hf hlk hcell hsh hp h5 hz hx hxm hxa hpv
          simp only [ptrOf, PO.ptr]
          go_wp2_with (go_at_call 62; refine hgz.mono ?_; rintro e w' ⟨rfl, rfl⟩)
          go_round
          case rel => exact ⟨i + 1, z, by omega, by go_num, rfl, HE.out.symm⟩
          case measure => simp [intOf]; omega
        · have e1 : A.followN (xs.length + 1) k = q := by
            rw [← hq, show xs.length + 1 - i = (xs.length - i) + 1 from by omega]; simp [AH.followN, hf, h5]
          have hne : (x.o.tag != 5) = true := by simpa using h5
          have HE := hid e1
          clear e1 hq hf h5 hlk hx hxm hxa
          simp only [ptrOf, PO.ptr]
          go_wp2
          go_ret
          exact ⟨by rw [HE.out]; rfl, rfl⟩
    · have e1 : A.followN (xs.length + 1) k = -1 := by
        rw [← hq, show xs.length + 1 - i = 0 from by omega]; rfl
      have HE := hid e1
      clear e1 hq hf
      go_wp2
      go_ret
      exact ⟨by rw [HE.out]; rfl, rfl⟩
end Go.Proofs.Ytjhdnbediipibaa
