import Derived.Test.YtddcfnjmppijjaaU21
/-! Plain law: what some functions need. -/
namespace Go.Proofs.Ytddcfnjmppijjaa
open Go.RowKit

abbrev kN : X := vr [110]
abbrev kA : X := vr [97, 99, 99]
abbrev kF : X := vr [102]
abbrev kOne : X := .mk 1 [49] [] []
abbrev kLess : X := .mk 10 [45] [] [kN, kOne]
abbrev kZero : X := .mk 10 [61] [] [kN, kOne]
abbrev kPlus : X := .mk 10 [43] [] [kA, kN]
abbrev kLoop : X := .mk 8 [] [] [kZero, kA, .mk 7 [] [] [kF, kLess, kPlus]]
abbrev kLazy : X := .mk 8 [] [] [kZero, kOne, .mk 7 [] [] [kF, kLess, kA]]
abbrev kEver : X := .mk 7 [] [] [kF, kN, kA]
abbrev kPair : X := .mk 10 [99, 111, 110, 115] [] [kN, kA]
abbrev kLam (b : X) : X := .mk 6 [] [[110], [97, 99, 99]] [b]
abbrev kTop (b : X) : X := .mk 9 [] [[102]] [kLam b, kF]
abbrev kFs (b : X) : List (Str × X) := [([102], kLam b)]
abbrev kNl (p q : Bool) : Ned := [([102], [p, q])]
def DS.has (d : DS) (s : Str) : Prop := d.all ∨ d.mem s

open Classical in
theorem kn_pas (b : X) (p q p' q' : Bool) (hp : (p = true ∧ (dem (kNl p q) b).has [110]) ↔ p' = true) (hq : (q = true ∧ (dem (kNl p q) b).has [97, 99, 99]) ↔ q' = true) : pas (kFs b) (kNl p q) = kNl p' q' := by
  have h1 : pas (kFs b) (kNl p q) = [([102], nxt (dem (kNl p q) b) [[110], [97, 99, 99]] [p, q])] := rfl
  rw [h1]
  simp only [nxt]
  have e1 : (p && decide ((dem (kNl p q) b).all ∨ (dem (kNl p q) b).mem [110])) = p' := by
    rw [Bool.eq_iff_iff, ← hp, Bool.and_eq_true, decide_eq_true_iff]; rfl
  have e2 : (q && decide ((dem (kNl p q) b).all ∨ (dem (kNl p q) b).mem [97, 99, 99])) = q' := by
    rw [Bool.eq_iff_iff, ← hq, Bool.and_eq_true, decide_eq_true_iff]; rfl
  rw [e1, e2]

theorem k_loop : dem (kNl true true) kLoop = ((DS.on [110]).un (DS.no.un DS.no)).un ((DS.on [97, 99, 99]).mt ((DS.on [102]).un (((DS.on [110]).un (DS.no.un DS.no)).un (((DS.on [97, 99, 99]).un ((DS.on [110]).un DS.no)).un DS.no)))) := rfl
theorem k_lazy1 : dem (kNl true true) kLazy = ((DS.on [110]).un (DS.no.un DS.no)).un (DS.no.mt ((DS.on [102]).un (((DS.on [110]).un (DS.no.un DS.no)).un ((DS.on [97, 99, 99]).un DS.no)))) := rfl
theorem k_lazy2 : dem (kNl true false) kLazy = ((DS.on [110]).un (DS.no.un DS.no)).un (DS.no.mt ((DS.on [102]).un (((DS.on [110]).un (DS.no.un DS.no)).un DS.no))) := rfl
theorem k_ever : dem (kNl true true) kEver = (DS.on [102]).un ((DS.on [110]).un ((DS.on [97, 99, 99]).un DS.no)) := rfl
theorem k_pair (p q : Bool) : dem (kNl p q) kPair = DS.no := rfl
theorem kp_loop : pas (kFs kLoop) (kNl true true) = kNl true true := kn_pas _ _ _ _ _ (by rw [k_loop]; simp [DS.has, DS.un, DS.mt, DS.on, DS.no]) (by rw [k_loop]; simp [DS.has, DS.un, DS.mt, DS.on, DS.no])
theorem kp_lazy1 : pas (kFs kLazy) (kNl true true) = kNl true false := kn_pas _ _ _ _ _ (by rw [k_lazy1]; simp [DS.has, DS.un, DS.mt, DS.on, DS.no]) (by rw [k_lazy1]; simp [DS.has, DS.un, DS.mt, DS.on, DS.no])
theorem kp_lazy2 : pas (kFs kLazy) (kNl true false) = kNl true false := kn_pas _ _ _ _ _ (by rw [k_lazy2]; simp [DS.has, DS.un, DS.mt, DS.on, DS.no]) (by simp)
theorem kp_ever : pas (kFs kEver) (kNl true true) = kNl true true := kn_pas _ _ _ _ _ (by rw [k_ever]; simp [DS.has, DS.un, DS.on, DS.no]) (by rw [k_ever]; simp [DS.has, DS.un, DS.on, DS.no])
theorem kp_pair1 : pas (kFs kPair) (kNl true true) = kNl false false := kn_pas _ _ _ _ _ (by rw [k_pair]; simp [DS.has, DS.no]) (by rw [k_pair]; simp [DS.has, DS.no])
theorem kp_pair2 : pas (kFs kPair) (kNl false false) = kNl false false := kn_pas _ _ _ _ _ (by simp) (by simp)
theorem k_ini (b : X) : ini (kFs b) = kNl true true := rfl
/-- a row of needs that the passes leave as it is -/
theorem k_is {b : X} {p q : Bool} (hr : Run (kFs b) (kNl p q)) (hf : pas (kFs b) (kNl p q) = kNl p q) {nl : Ned} (h : Run (kFs b) nl) (hx : pas (kFs b) nl = nl) : nl = kNl p q := h.same hx hr hf
theorem k_loop_is {nl : Ned} (h : Run (kFs kLoop) nl) (hx : pas (kFs kLoop) nl = nl) : nl = kNl true true := k_is (by rw [← k_ini]; exact .zero) kp_loop h hx
theorem k_lazy_is {nl : Ned} (h : Run (kFs kLazy) nl) (hx : pas (kFs kLazy) nl = nl) : nl = kNl true false := k_is (by rw [← kp_lazy1, ← k_ini]; exact .succ _ .zero) kp_lazy2 h hx
theorem k_ever_is {nl : Ned} (h : Run (kFs kEver) nl) (hx : pas (kFs kEver) nl = nl) : nl = kNl true true := k_is (by rw [← k_ini]; exact .zero) kp_ever h hx
theorem k_pair_is {nl : Ned} (h : Run (kFs kPair) nl) (hx : pas (kFs kPair) nl = nl) : nl = kNl false false := k_is (by rw [← kp_pair1, ← k_ini]; exact .succ _ .zero) kp_pair2 h hx
theorem kl_loop : (kTop kLoop).lams = kFs kLoop := by simp [X.lams, lamsL, lamH, X.kind]
theorem kl_lazy : (kTop kLazy).lams = kFs kLazy := by simp [X.lams, lamsL, lamH, X.kind]
theorem kl_ever : (kTop kEver).lams = kFs kEver := by simp [X.lams, lamsL, lamH, X.kind]
theorem kl_pair : (kTop kPair).lams = kFs kPair := by simp [X.lams, lamsL, lamH, X.kind]
end Go.Proofs.Ytddcfnjmppijjaa
