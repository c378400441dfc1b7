import Derived.Test.YtddcfnjmppijjaaA3
import Derived.Lib.IndexMore
/-! Plain laws on the primitives' words: a word stands in a row of words, parted by blanks, just where it is one of them. -/
namespace Go.Proofs.Ytddcfnjmppijjaa

theorem index_nonneg (s sub : Str) : 0 ≤ Lib.index s sub ↔ sub <:+: s := by
  induction s with
  | nil =>
    unfold Lib.index
    cases sub with
    | nil => simp
    | cons a r => simp
  | cons b l ih =>
    unfold Lib.index
    rw [List.infix_cons_iff]
    have hge := Lib.index_ge l sub
    by_cases hp : sub.isPrefixOf (b :: l) = true
    · have := List.isPrefixOf_iff_prefix.1 hp
      simp [hp, this]
    · have h' : ¬ sub <+: b :: l := fun k => hp (List.isPrefixOf_iff_prefix.2 k)
      simp only [hp, if_false, h', false_or, Bool.false_eq_true]
      by_cases h1 : (Lib.index l sub == -1) = true
      · have e : Lib.index l sub = -1 := by simpa using h1
        rw [if_pos h1, ← ih, e]
      · have e : Lib.index l sub ≠ -1 := by simpa using h1
        rw [if_neg h1, ← ih]
        omega

theorem contains_iff (s sub : Str) : Lib.contains s sub = true ↔ sub <:+: s := by
  unfold Lib.contains
  rw [decide_eq_true_eq, index_nonneg]

/-- words, each between blanks -/
def wordsOf (ws : List Str) : Str := 32 :: (ws.map (· ++ [32])).flatten

theorem skip_word (u x L : Str) (hx : (32 : UInt8) ∉ x) : (32 :: u) <:+: (x ++ L) ↔ (32 :: u) <:+: L := by
  induction x with
  | nil => simp
  | cons c x ih =>
    rw [List.cons_append, List.infix_cons_iff, ih (fun h => hx (List.mem_cons_of_mem _ h))]
    refine ⟨fun h => h.resolve_left fun k => ?_, .inr⟩
    rw [List.cons_prefix_cons] at k
    exact hx (by rw [k.1]; exact List.mem_cons_self)

theorem word_prefix (w x L : Str) (hw : (32 : UInt8) ∉ w) (hx : (32 : UInt8) ∉ x) : (w ++ [32]) <+: (x ++ 32 :: L) ↔ w = x := by
  induction w generalizing x with
  | nil =>
    cases x with
    | nil => simp
    | cons c x =>
      simp only [List.nil_append, List.cons_append, List.cons_prefix_cons]
      refine ⟨fun h => absurd h.1 (fun e => hx (by rw [e]; exact List.mem_cons_self)), fun h => by cases h⟩
  | cons d w ih =>
    cases x with
    | nil =>
      simp only [List.nil_append, List.cons_append, List.cons_prefix_cons]
      refine ⟨fun h => absurd h.1 (fun e => hw (by rw [← e]; exact List.mem_cons_self)), fun h => by cases h⟩
    | cons c x =>
      simp only [List.cons_append, List.cons_prefix_cons, List.cons.injEq]
      rw [ih x (fun h => hw (List.mem_cons_of_mem _ h)) (fun h => hx (List.mem_cons_of_mem _ h))]

theorem word_mem (w : Str) (hw : (32 : UInt8) ∉ w) : ∀ (ws : List Str), (∀ x ∈ ws, (32 : UInt8) ∉ x) → ((32 :: (w ++ [32])) <:+: wordsOf ws ↔ w ∈ ws)
  | [], _ => by
    simp only [wordsOf, List.map_nil, List.flatten_nil, List.not_mem_nil, iff_false]
    intro h
    have := h.length_le
    simp at this
  | x :: r, h => by
    have hx := h x List.mem_cons_self
    have e : wordsOf (x :: r) = 32 :: (x ++ wordsOf r) := by simp [wordsOf]
    rw [e, List.infix_cons_iff, skip_word _ x _ hx, word_mem w hw r (fun y hy => h y (List.mem_cons_of_mem _ hy)), List.cons_prefix_cons, List.mem_cons]
    have e2 : x ++ wordsOf r = x ++ 32 :: (r.map (· ++ [32])).flatten := rfl
    rw [e2, word_prefix w x _ hw hx]
    simp

/-- the primitives that take two -/
def twosL : List Str := [[43], [45], [42], [113, 117, 111, 116, 105, 101, 110, 116], [114, 101, 109, 97, 105, 110, 100, 101, 114], [60], [61], [101, 113, 63], [99, 111, 110, 115], [115, 101, 113]]
/-- the primitives that take one -/
def onesL : List Str := [[99, 97, 114], [99, 100, 114], [110, 117, 108, 108, 63], [112, 97, 105, 114, 63], [110, 111, 116], [105, 110, 116, 101, 103, 101, 114, 63], [115, 121, 109, 98, 111, 108, 63], [101, 114, 114, 111, 114]]

/-- is w one of the words? -/
def hasW (words w : Str) : Bool := !(w == []) && (!(Lib.contains w [32]) && Lib.contains words (32 :: (w ++ [32])))

theorem mem_of_infix_one (c : UInt8) (w : Str) : [c] <:+: w ↔ c ∈ w := by
  induction w with
  | nil => simp
  | cons d w ih => rw [List.infix_cons_iff, ih, List.cons_prefix_cons, List.mem_cons]; simp

theorem hasW_iff (ws : List Str) (h : ∀ x ∈ ws, (32 : UInt8) ∉ x) (h0 : [] ∉ ws) (w : Str) : hasW (wordsOf ws) w = decide (w ∈ ws) := by
  rw [Bool.eq_iff_iff, decide_eq_true_eq]
  unfold hasW
  simp only [Bool.and_eq_true, Bool.not_eq_true', beq_eq_false_iff_ne, ne_eq, contains_iff]
  rw [Bool.eq_false_iff, ne_eq, contains_iff, mem_of_infix_one]
  constructor
  · rintro ⟨_, h2, h3⟩
    exact (word_mem w h2 ws h).1 h3
  · intro hm
    exact ⟨fun e => h0 (e ▸ hm), h w hm, (word_mem w (h w hm) ws h).2 hm⟩

/-- how many a primitive takes -/
def ar (s : Str) : Int := if s ∈ twosL then 2 else if s ∈ onesL then 1 else 0

theorem has_twos (w : Str) : hasW (wordsOf twosL) w = decide (w ∈ twosL) := hasW_iff _ (by decide) (by decide) w
theorem has_ones (w : Str) : hasW (wordsOf onesL) w = decide (w ∈ onesL) := hasW_iff _ (by decide) (by decide) w
end Go.Proofs.Ytddcfnjmppijjaa
