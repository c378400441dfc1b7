import Derived.Test.YtddcfnjmppijjaaA1
/-! Terms of which nothing is too great. -/
namespace Go.Proofs.Ytddcfnjmppijjaa
open Go.RowKit

/-- a term of which nothing is greater than n -/
inductive Smn (n : Nat) : X → Prop
  | mk (k : Int) (t : Str) (ns : List Str) (a : List X) (ht : t.length ≤ n) (hn : ns.length ≤ n) (ha : a.length ≤ n) (h : ∀ x ∈ a, Smn n x) : Smn n (.mk k t ns a)
theorem Smn.up {n m : Nat} {x : X} (h : Smn n x) (hm : n ≤ m) : Smn m x := by
  induction h with
  | mk k t ns a ht hn ha _ ih => exact .mk k t ns a (by omega) (by omega) (by omega) ih
end Go.Proofs.Ytddcfnjmppijjaa
