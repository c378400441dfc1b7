import Derived.Test.YtjhdnbediipibaaK4
import Derived.Test.YtjhdnbediipibaaR3
/-! Over in a region that draws its order: behind it the heap is over, ahead of it it is not, and nothing else is told apart. -/
namespace Go.Proofs.Ytjhdnbediipibaa
open Go.RowKit

theorem updO_twice (k : Int) (o : HObj) : ∀ l : List (Int × HObj), updO k o (updO k o l) = updO k o l
  | [] => rfl
  | p :: r => by
    by_cases h : k = p.1
    · subst h; simp [updO]
    · simp [updO, h, updO_twice k o r]
theorem over_twice (A : AH) (k z : Int) : (A.over k z).over k z = A.over k z := by
  unfold AH.over AH.upd
  rw [updO_twice]
theorem over_has {A : AH} {k z x : Int} : (A.over k z).has x ↔ A.has x := by
  rw [has_iff, has_iff]
  unfold AH.over AH.upd
  rw [updO_keys]
theorem over_keys (A : AH) (k z : Int) : (A.over k z).keys = A.keys := updO_keys _ _ _
theorem over_find {A : AH} {k z x : Int} (hk : A.has k) : (A.over k z).find x = if x = k then some ⟨5, [z], []⟩ else A.find x := updO_look hk

/-- the heap written over -/
def OP1 (hb : Nat) (A' : AH) (f1 : List Nat) (N : Nat) (w : World) : Prop := ∃ f, PH w hb A' f ∧ ∀ b ∈ f, b ∈ f1 ∨ N ≤ b
structure OSt (hb : Nat) (A A' : AH) (f1 : List Nat) (N : Nat) (a b : World) : Prop where
  fr : Fr (fun k => k ∈ f1 ∨ N ≤ k) a b
  p0 : PH a hb A f1 → PH b hb A f1 ∨ OP1 hb A' f1 N b
  p1 : OP1 hb A' f1 N a → OP1 hb A' f1 N b
theorem OP1.grew {hb : Nat} {A' : AH} {f1 : List Nat} {N : Nat} {a b : World} (h : OP1 hb A' f1 N a) (g : Grew a b) : OP1 hb A' f1 N b := by
  obtain ⟨f, h1, h2⟩ := h
  exact ⟨f, h1.grew g, h2⟩
theorem OSt.grew (hb : Nat) (A A' : AH) (f1 : List Nat) (N : Nat) {a b : World} (g : Grew a b) : OSt hb A A' f1 N a b := ⟨g.any, fun h => .inl (h.grew g), fun h => h.grew g⟩
theorem OSt.trans {hb : Nat} {A A' : AH} {f1 : List Nat} {N : Nat} {a b c : World} (h : OSt hb A A' f1 N a b) (k : OSt hb A A' f1 N b c) : OSt hb A A' f1 N a c :=
  ⟨h.fr.trans k.fr (fun _ _ f => f), fun p => (h.p0 p).elim k.p0 (fun q => .inr (k.p1 q)), fun q => k.p1 (h.p1 q)⟩
def FOver (hb : Nat) (A' : AH) (f1 : List Nat) (N : Nat) (v : Value) (w : World) : Prop := v = .bool true ∧ OP1 hb A' f1 N w
theorem FOver.stays {hb : Nat} {A A' : AH} {f1 : List Nat} {N : Nat} : ∀ v w w', OSt hb A A' f1 N w w' → FOver hb A' f1 N v w → FOver hb A' f1 N v w' := fun _ _ _ h k => ⟨k.1, h.p1 k.2⟩
/-- a row behind the blocks -/
def FLenO (n : Nat) (v : Value) (_ : World) : Prop := ∃ a c, v = .slice a n c
theorem FLenO.stays {hb : Nat} {A A' : AH} {f1 : List Nat} {N : Nat} (n : Nat) : ∀ v w w', OSt hb A A' f1 N w w' → FLenO n v w → FLenO n v w' := fun _ _ _ _ k => k

theorem OSt.any {hb : Nat} {A : AH} {k z : Int} {f1 : List Nat} {N : Nat} {w0 a : World} (h0 : PH w0 hb A f1) (h : OSt hb A (A.over k z) f1 N w0 a) (hN : N ≤ w0.heap.size) :
    ∃ B f, PH a hb B f ∧ (B = A ∨ B = A.over k z) ∧ (∀ b ∈ f, b ∈ f1 ∨ N ≤ b) ∧ N ≤ a.heap.size := by
  have hs := h.fr.size
  rcases h.p0 h0 with p | ⟨f, p, q⟩
  · exact ⟨A, f1, p, .inl rfl, fun b hb => .inl hb, by omega⟩
  · exact ⟨_, f, p, .inr rfl, q, by omega⟩

theorem over_either {hb : Nat} {A : AH} {k z : Int} {f1 : List Nat} {N : Nat} {w0 a : World} (h0 : PH w0 hb A f1) (h : OSt hb A (A.over k z) f1 N w0 a) (hN : N ≤ w0.heap.size) (ok : A.OverOk k z) :
    Calls Try.prog 39 #[.pointer (some ⟨hb, 0, none⟩), .int .i64 k, .int .i64 z] a fun e w' => e = .returned (.bool true) ∧ FOver hb (A.over k z) f1 N (.bool true) w' ∧ OSt hb A (A.over k z) f1 N a w' := by
  obtain ⟨B, f, hB, hBA, hf, hNa⟩ := h.any h0 hN
  have okB : B.OverOk k z := by
    rcases hBA with rfl | rfl
    · exact ok
    · exact ⟨over_has.2 ok.1, over_has.2 ok.2.1, ok.2.2⟩
  have hBo : B.over k z = A.over k z := by
    rcases hBA with rfl | rfl
    · rfl
    · exact over_twice A k z
  refine (over_any hB k z).mono ?_
  intro e w' hp
  unfold OverPost at hp
  rw [if_pos okB] at hp
  obtain ⟨rfl, fp', h1, h2, h3⟩ := hp
  rw [hBo] at h1
  have hp1 : OP1 hb (A.over k z) f1 N w' := ⟨fp', h1, fun b hb => by
    rcases h3 b hb with e | e
    · exact hf b e
    · exact .inr (by omega)⟩
  exact ⟨rfl, ⟨rfl, hp1⟩, h2.mono (fun i _ hi => hf i hi), fun _ => .inr hp1, fun _ => hp1⟩
theorem used_either {hb : Nat} {A : AH} {k z : Int} {f1 : List Nat} {N : Nat} {w0 a : World} (h0 : PH w0 hb A f1) (h : OSt hb A (A.over k z) f1 N w0 a) (hN : N ≤ w0.heap.size) {u : Int} (hu : A.used = u) :
    Calls Try.prog 27 #[.pointer (some ⟨hb, 0, none⟩)] a fun e w' => e = .returned (Kv u) ∧ a = w' := by
  obtain ⟨B, f, hB, hBA, _, _⟩ := h.any h0 hN
  refine usedI hB ?_
  rcases hBA with rfl | rfl
  · exact hu
  · exact hu
theorem objs_either {hb : Nat} {A : AH} {k z : Int} {f1 : List Nat} {N : Nat} {w0 a : World} (h0 : PH w0 hb A f1) (hW : A.WF) (h : OSt hb A (A.over k z) f1 N w0 a) (hN : N ≤ w0.heap.size) (ok : A.OverOk k z) :
    Calls Try.prog 37 #[.pointer (some ⟨hb, 0, none⟩)] a fun e w' => ∃ v, e = .returned v ∧ FLenO A.keys.length v w' ∧ OSt hb A (A.over k z) f1 N a w' := by
  obtain ⟨B, f, hB, hBA, _, _⟩ := h.any h0 hN
  have hWB : B.WF := by
    rcases hBA with rfl | rfl
    · exact hW
    · exact WF_over hW ok
  have hk : B.keys = A.keys := by
    rcases hBA with rfl | rfl
    · rfl
    · exact over_keys A k z
  refine (objsI hB hWB hk).mono ?_
  rintro e w' ⟨v, rfl, h1, h2, _⟩
  obtain ⟨x, c, rfl, _⟩ := h1.shape
  exact ⟨_, rfl, ⟨x, c, rfl⟩, OSt.grew _ _ _ _ _ h2⟩
/-- the document's heap, alike -/
def ROP1 (hb : Nat) (A' : AH) (f1 : List Nat) (N : Nat) (w : World) : Prop := ∃ f, RH w hb A' f ∧ ∀ b ∈ f, b ∈ f1 ∨ N ≤ b
structure ROSt (hb : Nat) (A A' : AH) (f1 : List Nat) (N : Nat) (a b : World) : Prop where
  fr : Fr (fun k => k ∈ f1 ∨ N ≤ k) a b
  p0 : RH a hb A f1 → RH b hb A f1 ∨ ROP1 hb A' f1 N b
  p1 : ROP1 hb A' f1 N a → ROP1 hb A' f1 N b
theorem ROP1.grew {hb : Nat} {A' : AH} {f1 : List Nat} {N : Nat} {a b : World} (h : ROP1 hb A' f1 N a) (g : Grew a b) : ROP1 hb A' f1 N b := by
  obtain ⟨f, h1, h2⟩ := h
  exact ⟨f, h1.grew g, h2⟩
theorem ROSt.grew (hb : Nat) (A A' : AH) (f1 : List Nat) (N : Nat) {a b : World} (g : Grew a b) : ROSt hb A A' f1 N a b := ⟨g.any, fun h => .inl (h.grew g), fun h => h.grew g⟩
theorem ROSt.trans {hb : Nat} {A A' : AH} {f1 : List Nat} {N : Nat} {a b c : World} (h : ROSt hb A A' f1 N a b) (k : ROSt hb A A' f1 N b c) : ROSt hb A A' f1 N a c :=
  ⟨h.fr.trans k.fr (fun _ _ f => f), fun p => (h.p0 p).elim k.p0 (fun q => .inr (k.p1 q)), fun q => k.p1 (h.p1 q)⟩
def FROver (hb : Nat) (A' : AH) (f1 : List Nat) (N : Nat) (v : Value) (w : World) : Prop := v = .bool true ∧ ROP1 hb A' f1 N w
theorem FROver.stays {hb : Nat} {A A' : AH} {f1 : List Nat} {N : Nat} : ∀ v w w', ROSt hb A A' f1 N w w' → FROver hb A' f1 N v w → FROver hb A' f1 N v w' := fun _ _ _ h k => ⟨k.1, h.p1 k.2⟩
theorem ROSt.any {hb : Nat} {A : AH} {k z : Int} {f1 : List Nat} {N : Nat} {w0 a : World} (h0 : RH w0 hb A f1) (h : ROSt hb A (A.over k z) f1 N w0 a) (hN : N ≤ w0.heap.size) :
    ∃ B f, RH a hb B f ∧ (B = A ∨ B = A.over k z) ∧ (∀ b ∈ f, b ∈ f1 ∨ N ≤ b) ∧ N ≤ a.heap.size := by
  have hs := h.fr.size
  rcases h.p0 h0 with p | ⟨f, p, q⟩
  · exact ⟨A, f1, p, .inl rfl, fun b hb => .inl hb, by omega⟩
  · exact ⟨_, f, p, .inr rfl, q, by omega⟩

theorem rover_either {hb : Nat} {A : AH} {k z : Int} {f1 : List Nat} {N : Nat} {w0 a : World} (h0 : RH w0 hb A f1) (h : ROSt hb A (A.over k z) f1 N w0 a) (hN : N ≤ w0.heap.size) (hlen : A.objs.length ≤ 1000000) (ok : A.OverOk k z) :
    Calls Try.prog 45 #[.pointer (some ⟨hb, 0, none⟩), .int .i64 k, .int .i64 z] a fun e w' => e = .returned (.bool true) ∧ FROver hb (A.over k z) f1 N (.bool true) w' ∧ ROSt hb A (A.over k z) f1 N a w' := by
  obtain ⟨B, f, hB, hBA, hf, hNa⟩ := h.any h0 hN
  have okB : B.OverOk k z := by
    rcases hBA with rfl | rfl
    · exact ok
    · exact ⟨over_has.2 ok.1, over_has.2 ok.2.1, ok.2.2⟩
  have hBo : B.over k z = A.over k z := by
    rcases hBA with rfl | rfl
    · rfl
    · exact over_twice A k z
  have hlB : B.objs.length ≤ 1000000 := by
    rcases hBA with rfl | rfl
    · exact hlen
    · have := congrArg List.length (over_keys A k z)
      unfold AH.keys at this
      rw [List.length_map, List.length_map] at this
      omega
  refine (rover_any hB hlB k z).mono ?_
  intro e w' hp
  unfold OverPost at hp
  rw [if_pos okB] at hp
  obtain ⟨rfl, fp', h1, h2, h3⟩ := hp
  rw [hBo] at h1
  have hp1 : ROP1 hb (A.over k z) f1 N w' := ⟨fp', h1, fun b hb => by
    rcases h3 b hb with e | e
    · exact hf b e
    · exact .inr (by omega)⟩
  exact ⟨rfl, ⟨rfl, hp1⟩, h2.mono (fun i _ hi => hf i hi), fun _ => .inr hp1, fun _ => hp1⟩
end Go.Proofs.Ytjhdnbediipibaa
