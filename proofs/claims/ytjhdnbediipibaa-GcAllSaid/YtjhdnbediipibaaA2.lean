import Derived.Test.YtjhdnbediipibaaA1
/-! The heap as data; how the program's heap lies in memory; its readers. -/
namespace Go.Proofs.Ytjhdnbediipibaa
open Go.RowKit

/-- an object -/
structure HObj where
  tag : Int
  ptrs : List Int
  nums : List Int
  deriving DecidableEq

/-- a heap: its objects in the order in which they came, how many words are used, how many there are -/
structure AH where
  objs : List (Int × HObj)
  used : Int
  words : Int

def lookO (k : Int) : List (Int × HObj) → Option HObj
  | [] => none
  | p :: r => if k = p.1 then some p.2 else lookO k r

def AH.find (A : AH) (k : Int) : Option HObj := lookO k A.objs
def AH.tag (A : AH) (k : Int) : Int := ((A.find k).map (·.tag)).getD 0
def AH.ptrs (A : AH) (k : Int) : List Int := ((A.find k).map (·.ptrs)).getD []
def AH.nums (A : AH) (k : Int) : List Int := ((A.find k).map (·.nums)).getD []

/-- an object of the program's heap: its address, what it is, its block, its rows -/
structure PO where
  at' : Int
  o : HObj
  ob : Nat
  pv : Value
  nv : Value

def PO.holds (w : World) (x : PO) : Prop :=
  w.heap[x.ob]? = some (.cells #[Kv x.o.tag, x.pv, x.nv] 68 (0, 0)) ∧ Ow w x.pv x.o.ptrs ∧ Ow w x.nv x.o.nums
def PO.blocks (x : PO) : List Nat := x.ob :: (x.pv.ownBlock.toList ++ x.nv.ownBlock.toList)
def PO.pair (x : PO) : Int × HObj := (x.at', x.o)
def PO.ent (x : PO) : Int × Value := (x.at', .pointer (some ⟨x.ob, 0, none⟩))

/-- the entries, and when they were born -/
def EntsC (es : Array MapEntry) (clock : Nat) (kv : List (Int × Value)) : Prop := Ents es kv ∧ (∀ x ∈ es.toList, x.born < clock) ∧ (es.toList.map (·.born)).Nodup
theorem EntsC.push {es : Array MapEntry} {clock : Nat} {kv : List (Int × Value)} (h : EntsC es clock kv) (k : Int) (v : Value) : EntsC (es.push { key := Kv k, val := v, born := clock }) (clock + 1) (kv ++ [(k, v)]) := by
  obtain ⟨h1, h2, h3⟩ := h
  refine ⟨h1.push k v clock, fun x hx => ?_, ?_⟩
  · rw [Array.toList_push, List.mem_append, List.mem_singleton] at hx
    rcases hx with hx | rfl
    · have := h2 x hx; omega
    · exact Nat.lt_succ_self _
  · rw [Array.toList_push, List.map_append, List.nodup_append]
    refine ⟨h3, by simp, fun a ha b hb e => ?_⟩
    obtain ⟨x, hx, rfl⟩ := List.mem_map.1 ha
    simp at hb
    have := h2 x hx
    omega

/-- at hb lies the heap A; fp: its blocks -/
def PH (w : World) (hb : Nat) (A : AH) (fp : List Nat) : Prop :=
  ∃ (mb : Nat) (es : Array MapEntry) (clock : Nat) (xs : List PO),
    w.heap[hb]? = some (.cells #[.map (some mb), Kv A.used, Kv A.words] 37 (0, 0)) ∧ w.heap[mb]? = some (.map es clock) ∧
    EntsC es clock (xs.map PO.ent) ∧ A.objs = xs.map PO.pair ∧ (∀ x ∈ xs, x.holds w) ∧ fp = hb :: mb :: xs.flatMap PO.blocks ∧ fp.Nodup

theorem PO.holds.kept {w w' : World} {F : Nat → Prop} {x : PO} (h : x.holds w) (k : Fr F w w') (hF : ∀ b ∈ x.blocks, ¬ F b) : x.holds w' := by
  obtain ⟨h1, h2, h3⟩ := h
  refine ⟨k.get h1 (hF _ (by simp [PO.blocks])), h2.kept k (fun g hg => hF g ?_), h3.kept k (fun g hg => hF g ?_)⟩ <;> simp [PO.blocks, hg]

theorem PO.holds.lt {w : World} {x : PO} (h : x.holds w) : ∀ b ∈ x.blocks, b < w.heap.size := by
  obtain ⟨h1, h2, h3⟩ := h
  intro b hb
  simp only [PO.blocks, List.mem_cons, List.mem_append, Option.mem_toList] at hb
  rcases hb with rfl | hb | hb
  · exact lt_of_get h1
  · exact h2.lt hb
  · exact h3.lt hb

theorem PH.kept {w w' : World} {F : Nat → Prop} {hb : Nat} {A : AH} {fp : List Nat} (h : PH w hb A fp) (k : Fr F w w') (hF : ∀ b ∈ fp, ¬ F b) : PH w' hb A fp := by
  obtain ⟨mb, es, clock, xs, h1, h2, h3, h4, h5, rfl, h7⟩ := h
  refine ⟨mb, es, clock, xs, k.get h1 (hF _ (by simp)), k.get h2 (hF _ (by simp)), h3, h4, fun x hx => (h5 x hx).kept k (fun b hb => hF b ?_), rfl, h7⟩
  simp only [List.mem_cons, List.mem_flatMap]
  exact .inr (.inr ⟨x, hx, hb⟩)

theorem PH.grew {w w' : World} {hb : Nat} {A : AH} {fp : List Nat} (h : PH w hb A fp) (k : Grew w w') : PH w' hb A fp := h.kept k (fun _ _ f => f)

theorem PH.lt {w : World} {hb : Nat} {A : AH} {fp : List Nat} (h : PH w hb A fp) : ∀ b ∈ fp, b < w.heap.size := by
  obtain ⟨mb, es, clock, xs, h1, h2, h3, h4, h5, rfl, h7⟩ := h
  intro b hbm
  simp only [List.mem_cons, List.mem_flatMap] at hbm
  rcases hbm with rfl | rfl | ⟨x, hx, hbx⟩
  · exact lt_of_get h1
  · exact lt_of_get h2
  · exact (h5 x hx).lt b hbx

theorem PH.mem {w : World} {hb : Nat} {A : AH} {fp : List Nat} (h : PH w hb A fp) : hb ∈ fp := by
  obtain ⟨mb, es, clock, xs, h1, h2, h3, h4, h5, rfl, h7⟩ := h
  simp

theorem PH.cells {w : World} {hb : Nat} {A : AH} {fp : List Nat} (h : PH w hb A fp) :
    ∃ mb, w.cell? ⟨hb, 0, none⟩ = some (.map (some mb)) ∧ w.cell? ⟨hb, 1, none⟩ = some (Kv A.used) ∧ w.cell? ⟨hb, 2, none⟩ = some (Kv A.words) ∧
      ∃ es clock, w.heap[mb]? = some (.map es clock) ∧ es.size = A.objs.length := by
  obtain ⟨mb, es, clock, xs, h1, h2, h3, h4, h5, rfl, h7⟩ := h
  refine ⟨mb, ?_, ?_, ?_, es, clock, h2, ?_⟩
  · rw [cell_of_get h1]; rfl
  · rw [cell_of_get h1]; rfl
  · rw [cell_of_get h1]; rfl
  · have := congrArg List.length h3.1
    simp at this
    rw [this, h4]; simp

theorem look_pairs (k : Int) : ∀ xs : List PO, (lookO k (xs.map PO.pair) = none ∧ lookKV k (xs.map PO.ent) = none) ∨
    ∃ x ∈ xs, x.at' = k ∧ lookO k (xs.map PO.pair) = some x.o ∧ lookKV k (xs.map PO.ent) = some (.pointer (some ⟨x.ob, 0, none⟩))
  | [] => .inl ⟨rfl, rfl⟩
  | x :: r => by
    by_cases h : k = x.at'
    · exact .inr ⟨x, by simp, h.symm, by simp [lookO, PO.pair, h], by simp [lookKV, PO.ent, h]⟩
    · rcases look_pairs k r with ⟨h1, h2⟩ | ⟨y, hy, h0, h1, h2⟩
      · refine .inl ⟨?_, ?_⟩
        · simp only [List.map_cons, lookO, PO.pair, h, if_false]; exact h1
        · simp only [List.map_cons, lookKV, PO.ent, h, if_false]; exact h2
      · refine .inr ⟨y, by simp [hy], h0, ?_, ?_⟩
        · simp only [List.map_cons, lookO, PO.pair, h, if_false]; exact h1
        · simp only [List.map_cons, lookKV, PO.ent, h, if_false]; exact h2

theorem Try.u3 : Try.prog.underlying 3 = some (.int .i64) := by kernel_rfl
theorem Try.u33 : Try.prog.underlying 33 = some (.map 3 64) := by kernel_rfl
theorem zero64 (w : World) : (zeroValue 64).run Try.prog w = .ok (.pointer none) w := by kernel_rfl

/-- what `h.objects[k]` gives -/
theorem PH.look {w : World} {hb : Nat} {A : AH} {fp : List Nat} (h : PH w hb A fp) (k : Int) :
    ∃ mb, w.cell? ⟨hb, 0, none⟩ = some (.map (some mb)) ∧
     ((A.find k = none ∧ (Instr.lookup 33 (.map (some mb)) (Kv k) false).run Try.prog w = .ok (.pointer none) w) ∨
      ∃ o ob pv nv, A.find k = some o ∧ (Instr.lookup 33 (.map (some mb)) (Kv k) false).run Try.prog w = .ok (.pointer (some ⟨ob, 0, none⟩)) w ∧
        w.heap[ob]? = some (.cells #[Kv o.tag, pv, nv] 68 (0, 0)) ∧ Ow w pv o.ptrs ∧ Ow w nv o.nums) := by
  obtain ⟨mb, es, clock, xs, h1, h2, h3, h4, h5, rfl, h7⟩ := h
  have hr := run_look Try.prog Try.u3 Try.u33 (zero64 w) h2 h3.1 k false
  refine ⟨mb, by rw [cell_of_get h1]; rfl, ?_⟩
  rcases look_pairs k xs with ⟨g1, g2⟩ | ⟨x, hx, g0, g1, g2⟩
  · exact .inl ⟨by rw [AH.find, h4]; exact g1, by rw [hr, g2]; rfl⟩
  · exact .inr ⟨x.o, x.ob, x.pv, x.nv, by rw [AH.find, h4]; exact g1, by rw [hr, g2]; rfl, h5 x hx⟩

theorem get_none {w : World} {hb : Nat} {A : AH} {fp : List Nat} (h : PH w hb A fp) (k : Int) (hk : A.find k = none) :
    Calls Try.prog 48 #[.pointer (some ⟨hb, 0, none⟩), .int .i64 k] w fun e w' => e = .returned (.pointer none) ∧ w = w' := by
  obtain ⟨mb, hc, ⟨_, hr⟩ | ⟨o, ob, pv, nv, h1, _⟩⟩ := h.look k
  · clear h hk
    go_enter Try.func48, Try.ntmps48
    go_wp2
    go_ret
    exact ⟨rfl, rfl⟩
  · rw [hk] at h1; cases h1

theorem get_some {w : World} {hb : Nat} {A : AH} {fp : List Nat} (h : PH w hb A fp) (k : Int) {o : HObj} (hk : A.find k = some o) :
    ∃ ob pv nv, Calls Try.prog 48 #[.pointer (some ⟨hb, 0, none⟩), .int .i64 k] w (fun e w' => e = .returned (.pointer (some ⟨ob, 0, none⟩)) ∧ w = w') ∧
      w.heap[ob]? = some (.cells #[Kv o.tag, pv, nv] 68 (0, 0)) ∧ Ow w pv o.ptrs ∧ Ow w nv o.nums := by
  obtain ⟨mb, hc, ⟨h1, _⟩ | ⟨o', ob, pv, nv, h1, hr, h2⟩⟩ := h.look k
  · rw [hk] at h1; cases h1
  · rw [hk] at h1; cases h1
    refine ⟨ob, pv, nv, ?_, h2⟩
    clear h hk h2
    go_enter Try.func48, Try.ntmps48
    go_wp2
    go_ret
    exact ⟨rfl, rfl⟩

theorem tag_any {w : World} {hb : Nat} {A : AH} {fp : List Nat} (h : PH w hb A fp) (k : Int) :
    Calls Try.prog 26 #[.pointer (some ⟨hb, 0, none⟩), .int .i64 k] w fun e w' => e = .returned (Kv (A.tag k)) ∧ w = w' := by
  cases hf : A.find k with
  | none =>
    have hg := get_none h k hf
    have ht : A.tag k = 0 := by simp [AH.tag, hf]
    rw [ht]; clear h hf ht
    go_enter Try.func26, Try.ntmps26
    go_wp2_with (go_at_call 48; refine hg.mono ?_; rintro e w' ⟨rfl, rfl⟩)
    go_ret
    exact ⟨rfl, rfl⟩
  | some o =>
    obtain ⟨ob, pv, nv, hg, ho, _⟩ := get_some h k hf
    have ht : A.tag k = o.tag := by simp [AH.tag, hf]
    have hc : w.cell? ⟨ob, 0, none⟩ = some (Kv o.tag) := by rw [cell_of_get ho]; rfl
    rw [ht]; clear h hf ht
    go_enter Try.func26, Try.ntmps26
    go_wp2_with (go_at_call 48; refine hg.mono ?_; rintro e w' ⟨rfl, rfl⟩)
    go_ret
    exact ⟨rfl, rfl⟩

theorem used_any {w : World} {hb : Nat} {A : AH} {fp : List Nat} (h : PH w hb A fp) :
    Calls Try.prog 27 #[.pointer (some ⟨hb, 0, none⟩)] w fun e w' => e = .returned (Kv A.used) ∧ w = w' := by
  obtain ⟨mb, _, hc, _⟩ := h.cells
  clear h
  go_enter Try.func27, Try.ntmps27
  go_wp2
  go_ret
  exact ⟨rfl, rfl⟩

theorem words_any {w : World} {hb : Nat} {A : AH} {fp : List Nat} (h : PH w hb A fp) :
    Calls Try.prog 38 #[.pointer (some ⟨hb, 0, none⟩)] w fun e w' => e = .returned (Kv A.words) ∧ w = w' := by
  obtain ⟨mb, _, _, hc, _⟩ := h.cells
  clear h
  go_enter Try.func38, Try.ntmps38
  go_wp2
  go_ret
  exact ⟨rfl, rfl⟩
end Go.Proofs.Ytjhdnbediipibaa
