import Derived.Test.YtddcfnjmppijjaaU1
import Derived.Test.YtddcfnjmppijjaaM9
import Derived.Test.YtddcfnjmppijjaaM3
/-! Plain law: with more needs as much is demanded, or more; needs, pass by pass. -/
namespace Go.Proofs.Ytddcfnjmppijjaa
open Go.RowKit

/-- no more than -/
def DS.le (a b : DS) : Prop := (a.all → b.all) ∧ (¬ b.all → ∀ s, a.mem s → b.mem s)
theorem DS.le.refl (a : DS) : a.le a := ⟨id, fun _ _ h => h⟩
theorem DS.le.un {a b a' b' : DS} (h : a.le a') (k : b.le b') : (a.un b).le (a'.un b') :=
  ⟨fun q => q.elim (fun z => .inl (h.1 z)) (fun z => .inr (k.1 z)), fun q s z => z.elim (fun y => .inl (h.2 (fun x => q (.inl x)) s y)) (fun y => .inr (k.2 (fun x => q (.inr x)) s y))⟩
theorem DS.le.has {a b : DS} (h : a.le b) {s : Str} (k : a.all ∨ a.mem s) : b.all ∨ b.mem s := by
  by_cases hb : b.all
  · exact .inl hb
  · exact k.elim (fun z => .inl (h.1 z)) (fun z => .inr (h.2 hb s z))
theorem DS.le.mt {a b a' b' : DS} (h : a.le a') (k : b.le b') : (a.mt b).le (a'.mt b') :=
  ⟨fun q => ⟨h.1 q.1, k.1 q.2⟩, fun _ _ z => ⟨h.has z.1, k.has z.2⟩⟩

inductive LeB : List Bool → List Bool → Prop
  | nil : LeB [] []
  | cons (b c : Bool) (l m : List Bool) (h : b = true → c = true) (k : LeB l m) : LeB (b :: l) (c :: m)
inductive LeN : Ned → Ned → Prop
  | nil : LeN [] []
  | cons (s : Str) (b c : List Bool) (l m : Ned) (h : LeB b c) (k : LeN l m) : LeN ((s, b) :: l) ((s, c) :: m)
inductive LeD : List DS → List DS → Prop
  | nil : LeD [] []
  | cons (b c : DS) (l m : List DS) (h : b.le c) (k : LeD l m) : LeD (b :: l) (c :: m)
theorem LeB.refl : ∀ l, LeB l l
  | [] => .nil
  | b :: l => .cons b b l l id (LeB.refl l)
theorem LeN.refl : ∀ l, LeN l l
  | [] => .nil
  | (s, b) :: l => .cons s b b l l (LeB.refl b) (LeN.refl l)
theorem LeB.trans {a b c : List Bool} (h : LeB a b) (k : LeB b c) : LeB a c := by
  induction h generalizing c with
  | nil => exact k
  | cons b c l m h _ ih =>
    cases k with
    | cons _ d _ n h' k' => exact .cons _ _ _ _ (fun q => h' (h q)) (ih k')
theorem LeN.trans {a b c : Ned} (h : LeN a b) (k : LeN b c) : LeN a c := by
  induction h generalizing c with
  | nil => exact k
  | cons s b c l m h _ ih =>
    cases k with
    | cons _ _ d _ n h' k' => exact .cons _ _ _ _ _ (h.trans h') (ih k')
theorem LeB.anti {a b : List Bool} (h : LeB a b) (k : LeB b a) : a = b := by
  induction h with
  | nil => rfl
  | cons b c l m h _ ih =>
    cases k with
    | cons _ _ _ _ h' k' =>
      rw [ih k']
      congr 1
      cases b <;> cases c <;> simp_all
theorem LeN.anti {a b : Ned} (h : LeN a b) (k : LeN b a) : a = b := by
  induction h with
  | nil => rfl
  | cons s b c l m h _ ih =>
    cases k with
    | cons _ _ _ _ _ h' k' => rw [ih k', h.anti h']
theorem LeB.len {a b : List Bool} (h : LeB a b) : a.length = b.length := by
  induction h with
  | nil => rfl
  | cons _ _ _ _ _ _ ih => simp [ih]
theorem LeN.len {a b : Ned} (h : LeN a b) : a.length = b.length := by
  induction h with
  | nil => rfl
  | cons _ _ _ _ _ _ _ ih => simp [ih]
theorem LeD.len {a b : List DS} (h : LeD a b) : a.length = b.length := by
  induction h with
  | nil => rfl
  | cons _ _ _ _ _ _ ih => simp [ih]
theorem LeD.at {a b : List DS} (h : LeD a b) (i : Nat) : ((a[i]?).getD DS.no).le ((b[i]?).getD DS.no) := by
  induction h generalizing i with
  | nil => exact DS.le.refl _
  | cons b c l m h _ ih =>
    cases i with
    | zero => exact h
    | succ i => exact ih i
theorem LeD.unl {a b : List DS} (h : LeD a b) : (unl a).le (unl b) := by
  induction h with
  | nil => exact DS.le.refl _
  | cons b c l m h _ ih => exact h.un ih
theorem LeB.pick {b c : List Bool} (h : LeB b c) {l m : List DS} (k : LeD l m) : (unl (pick b l)).le (unl (pick c m)) := by
  induction h generalizing l m with
  | nil => exact DS.le.refl _
  | cons b c bs cs h _ ih =>
    cases k with
    | nil => cases b <;> cases c <;> exact DS.le.refl _
    | cons d e l m h' k' =>
      have := ih k'
      cases b
      · cases c
        · exact this
        · exact ⟨fun z => .inr (this.1 z), fun q s z => .inr (this.2 (fun y => q (.inr y)) s z)⟩
      · have hc := h rfl
        subst hc
        exact h'.un this
theorem LeN.ofs {a b : Ned} (h : LeN a b) (k : Int) (t : Str) : LeB (ofs a k t) (ofs b k t) := by
  unfold Ytddcfnjmppijjaa.ofs
  split
  · induction h with
    | nil => exact .nil
    | cons s b c l m h _ ih =>
      by_cases hs : s = t
      · subst hs
        simpa using h
      · rw [List.find?_cons_of_neg (by simpa using hs), List.find?_cons_of_neg (by simpa using hs)]
        exact ih
  · exact .nil

/-- what is bound, and more -/
inductive LeP : List (Str × DS) → List (Str × DS) → Prop
  | nil : LeP [] []
  | cons (s : Str) (b c : DS) (l m : List (Str × DS)) (h : b.le c) (k : LeP l m) : LeP ((s, b) :: l) ((s, c) :: m)
theorem LeP.zip {l m : List DS} (h : LeD l m) (ns : List Str) : LeP (ns.zip l) (ns.zip m) := by
  induction h generalizing ns with
  | nil => simp; exact .nil
  | cons b c l m h _ ih =>
    cases ns with
    | nil => exact .nil
    | cons s r => exact .cons s b c _ _ h (ih r)
theorem LeP.names {l m : List (Str × DS)} (h : LeP l m) : l.map (·.1) = m.map (·.1) := by
  induction h with
  | nil => rfl
  | cons _ _ _ _ _ _ _ ih => simp [ih]
theorem LeP.mem {l m : List (Str × DS)} (h : LeP l m) {n : Str} {d : DS} (hm : (n, d) ∈ l) : ∃ e, (n, e) ∈ m ∧ d.le e := by
  induction h with
  | nil => simp at hm
  | cons s b c l m h _ ih =>
    rcases List.mem_cons.1 hm with q | q
    · cases q
      exact ⟨c, by simp, h⟩
    · obtain ⟨e, h1, h2⟩ := ih q
      exact ⟨e, by simp [h1], h2⟩
theorem letD_le {a b : DS} {l m : List (Str × DS)} (h : a.le b) (k : LeP l m) : (letD a l).le (letD b m) := by
  have hr : ¬ (letD b m).all → ∀ s, Rch a l s → Rch b m s := by
    intro hn s hs
    induction hs with
    | base s q => exact .base s (h.2 (fun z => hn (.inl z)) s q)
    | step n s d hp _ q ih =>
      obtain ⟨e, h1, h2⟩ := k.mem hp
      exact .step n s e h1 ih (h2.2 (fun z => hn (.inr ⟨n, e, h1, ih, z⟩)) s q)
  refine ⟨?_, fun hn s z => ⟨hr hn s z.1, by rw [← k.names]; exact z.2⟩⟩
  intro hz
  apply Classical.byContradiction
  intro hn
  rcases hz with q | ⟨n, d, hp, hq, hd⟩
  · exact hn (.inl (h.1 q))
  · obtain ⟨e, h1, h2⟩ := k.mem hp
    exact hn (.inr ⟨n, e, h1, hr hn n hq, h2.1 hd⟩)
theorem demF_le {l m : Ned} (h : LeN l m) (k : Int) (t : Str) (ns : List Str) (a : List X) {ds es : List DS} (hd : LeD ds es) : (demF l k t ns a ds).le (demF m k t ns a es) := by
  unfold demF
  split
  · exact DS.le.refl _
  · split
    · cases hd with
      | nil => exact DS.le.refl _
      | cons b1 c1 _ _ h1 k1 =>
        cases k1 with
        | nil => exact DS.le.refl _
        | cons b2 c2 _ _ h2 k2 =>
          cases k2 with
          | nil => exact DS.le.refl _
          | cons b3 c3 _ _ h3 k3 =>
            cases k3 with
            | nil => exact h1.un (h2.mt h3)
            | cons => exact DS.le.refl _
    · split
      · cases a with
        | nil => exact DS.le.refl _
        | cons x r =>
          cases hd with
          | nil => exact DS.le.refl _
          | cons b c ds es h1 k1 =>
            have ho := h.ofs x.kind x.text
            simp only []
            rw [← ho.len, ← k1.len]
            split
            · exact h1.un (ho.pick k1)
            · exact h1
      · split
        · exact letD_le (hd.at _) (LeP.zip hd ns)
        · split
          · split
            · exact DS.le.refl _
            · split
              · exact DS.le.refl _
              · exact hd.unl
          · exact DS.le.refl _
mutual
theorem dem_le {l m : Ned} (h : LeN l m) : ∀ x : X, (dem l x).le (dem m x)
  | .mk k t ns a => demF_le h k t ns a (dems_le h a)
theorem dems_le {l m : Ned} (h : LeN l m) : ∀ a : List X, LeD (dems l a) (dems m a)
  | [] => .nil
  | x :: r => .cons _ _ _ _ (dem_le h x) (dems_le h r)
end

open Classical in
/-- what is still needed, where d is demanded -/
noncomputable def nxt (d : DS) : List Str → List Bool → List Bool
  | s :: ns, b :: bs => (b && decide (d.all ∨ d.mem s)) :: nxt d ns bs
  | _, bs => bs
theorem nxt_le (d : DS) : ∀ ns bs, LeB (nxt d ns bs) bs
  | [], bs => by simpa [nxt] using LeB.refl bs
  | _ :: _, [] => by simpa [nxt] using LeB.nil
  | s :: ns, b :: bs => by
    simp only [nxt]
    exact .cons _ _ _ _ (fun q => by simp at q; exact q.1) (nxt_le d ns bs)
/-- a function's body -/
def bod (x : X) : X := (x.parts[0]?).getD x
/-- one function's needs reckoned -/
noncomputable def stp (F : List (Str × X)) (nl : Ned) (i : Nat) : Ned :=
  match F[i]?, nl[i]? with
  | some f, some n => nl.set i (n.1, nxt (dem nl (bod f.2)) f.2.names n.2)
  | _, _ => nl
/-- the first j functions' -/
noncomputable def pasTo (F : List (Str × X)) (nl : Ned) : Nat → Ned
  | 0 => nl
  | j + 1 => stp F (pasTo F nl j) j
/-- all functions' -/
noncomputable def pas (F : List (Str × X)) (nl : Ned) : Ned := pasTo F nl F.length
/-- all is needed -/
def ini (F : List (Str × X)) : Ned := F.map fun f => (f.1, List.replicate f.2.names.length true)
inductive Run (F : List (Str × X)) : Ned → Prop
  | zero : Run F (ini F)
  | succ (nl : Ned) (h : Run F nl) : Run F (pas F nl)

theorem LeN.set {l : Ned} {i : Nat} {n : Str × List Bool} {b : List Bool} (h : l[i]? = some n) (k : LeB b n.2) : LeN (l.set i (n.1, b)) l := by
  induction l generalizing i with
  | nil => simp at h
  | cons m r ih =>
    cases i with
    | zero =>
      simp at h; subst h
      exact .cons _ _ _ _ _ k (LeN.refl r)
    | succ i => exact .cons _ _ _ _ _ (LeB.refl _) (ih (by simpa using h))
theorem stp_le (F : List (Str × X)) (nl : Ned) (i : Nat) : LeN (stp F nl i) nl := by
  unfold stp
  split
  · rename_i f n h1 h2
    exact LeN.set h2 (nxt_le _ _ _)
  · exact LeN.refl _
theorem pasTo_le (F : List (Str × X)) (nl : Ned) : ∀ j, LeN (pasTo F nl j) nl
  | 0 => LeN.refl _
  | j + 1 => (stp_le F _ j).trans (pasTo_le F nl j)
theorem pasTo_anti (F : List (Str × X)) (nl : Ned) {i j : Nat} (h : i ≤ j) : LeN (pasTo F nl j) (pasTo F nl i) := by
  induction h with
  | refl => exact LeN.refl _
  | step _ ih => exact (stp_le F _ _).trans ih
theorem pas_fix {F : List (Str × X)} {nl : Ned} (h : pas F nl = nl) {j : Nat} (hj : j ≤ F.length) : pasTo F nl j = nl := by
  refine (pasTo_le F nl j).anti ?_
  have := pasTo_anti F nl hj
  unfold pas at h
  rwa [h] at this
theorem stp_fix {F : List (Str × X)} {nl : Ned} (h : pas F nl = nl) {i : Nat} (hi : i < F.length) : stp F nl i = nl := by
  have h1 := pas_fix h (j := i + 1) hi
  have h2 := pas_fix h (j := i) (by omega)
  rw [pasTo, h2] at h1
  exact h1
theorem Run.iter {F : List (Str × X)} {nl : Ned} (h : Run F nl) : ∃ m : Nat, nl = Nat.rec (ini F) (fun _ x => pas F x) m := by
  induction h with
  | zero => exact ⟨0, rfl⟩
  | succ nl _ ih =>
    obtain ⟨m, rfl⟩ := ih
    exact ⟨m + 1, rfl⟩
theorem Run.same {F : List (Str × X)} {a b : Ned} (ha : Run F a) (ka : pas F a = a) (hb : Run F b) (kb : pas F b = b) : a = b := by
  obtain ⟨m, hm⟩ := ha.iter
  obtain ⟨n, hn⟩ := hb.iter
  have go : ∀ (x : Ned) (d m : Nat), pas F x = x → x = Nat.rec (ini F) (fun _ x => pas F x) m → (Nat.rec (ini F) (fun _ x => pas F x) (m + d) : Ned) = x := by
    intro x d
    induction d with
    | zero => intro m _ h; exact h.symm
    | succ d ih =>
      intro m hx h
      have := ih m hx h
      show pas F (Nat.rec (ini F) (fun _ x => pas F x) (m + d)) = x
      rw [this, hx]
  rcases Nat.le_total m n with q | q
  · obtain ⟨d, rfl⟩ := Nat.le.dest q
    rw [hn]
    exact (go a d m ka hm).symm
  · obtain ⟨d, rfl⟩ := Nat.le.dest q
    rw [hm]
    exact go b d n kb hn
end Go.Proofs.Ytddcfnjmppijjaa

/-! Regions in which some operations make memory, one behind the other, among others that only read. -/
namespace Go.Proofs.Ytddcfnjmppijjaa
open Go.RowKit

/-- Of the operations at ps, which write the slots ss, the first j have come; Q says what the world is then, and what they wrote. -/
structure Ch (Q : Nat → World → List Value → Prop) (sz : Nat) (ps ss : List Nat) (listed : Array Bool) (a : Act) (w : World) : Prop where
  sz : a.tmps.size = sz
  st : ∃ j, j ≤ ss.length ∧ (∀ i p, ps[i]? = some p → listed.getD p false = decide (i < j)) ∧ Q j w ((ss.take j).map (fun s => a.tmps.getD s undef))

section
variable {Q : Nat → World → List Value → Prop} {sz : Nat} {ps ss : List Nat} {listed : Array Bool} {a : Act} {w : World}
theorem Ch.pure (h : Ch Q sz ps ss listed a w) {i d : Nat} (v : Value) (h1 : i ∉ ps) (h2 : d ∉ ss) : Ch Q sz ps ss (listed.setIfInBounds i true) (a.put (some d) v) w := by
  obtain ⟨hz, j, hj, hl, hq⟩ := h
  refine ⟨by rw [put_size']; exact hz, j, hj, fun k p hp => ?_, ?_⟩
  · rw [getD_ne (fun e => h1 (by rw [e]; exact List.mem_of_getElem? hp))]
    exact hl k p hp
  · rw [List.map_congr_left (g := fun s => a.tmps.getD s undef)]
    · exact hq
    · intro s hs
      exact Rg.put_getD_ne v (fun e => h2 (by rw [e]; exact List.mem_of_mem_take hs))
theorem Ch.none (hz : a.tmps.size = sz) (n : Nat) (hq : Q 0 w []) : Ch Q sz ps ss (Array.replicate n false) a w := by
  refine ⟨hz, 0, Nat.zero_le _, fun i p _ => ?_, by simpa using hq⟩
  by_cases hp : p < n
  · simp [hp]
  · simp [hp]
/-- the operation at p comes: what came ahead of it -/
theorem Ch.at (h : Ch Q sz ps ss listed a w) {j p : Nat} (hp : ps[j]? = some p) (hn : listed.getD p false = false) (hb : ∀ i q, i < j → ps[i]? = some q → listed.getD q false = true) (hlen : ps.length = ss.length) :
    Q j w ((ss.take j).map (fun s => a.tmps.getD s undef)) := by
  obtain ⟨-, m, hm, hl, hq⟩ := h
  have h1 : ¬ j < m := by
    have := hl j p hp
    rw [hn] at this
    simpa using this.symm
  have h2 : m = j := by
    rcases Nat.lt_or_ge m j with q | q
    · have hjl := (List.getElem?_eq_some_iff.1 hp).1
      have hml : m < ps.length := by omega
      have e := hl m _ (List.getElem?_eq_getElem hml)
      rw [hb m _ q (List.getElem?_eq_getElem hml)] at e
      simp at e
    · omega
  subst h2
  exact hq
theorem Ch.step (h : Ch Q sz ps ss listed a w) {j p d : Nat} {v : Value} {w2 : World} (hp : ps[j]? = some p) (hd : ss[j]? = some d) (hn : listed.getD p false = false) (hb : ∀ i q, i < j → ps[i]? = some q → listed.getD q false = true) (hlen : ps.length = ss.length)
    (hpl : p < listed.size) (hds : d < sz) (hnp : ps.Nodup) (hns : ss.Nodup) (hQ : Q (j + 1) w2 ((ss.take j).map (fun s => a.tmps.getD s undef) ++ [v])) : Ch Q sz ps ss (listed.setIfInBounds p true) (a.put (some d) v) w2 := by
  obtain ⟨hz, m, hm, hl, -⟩ := h
  have hjl := (List.getElem?_eq_some_iff.1 hp).1
  have hds' := (List.getElem?_eq_some_iff.1 hd).1
  have h1 : ¬ j < m := by
    have := hl j p hp
    rw [hn] at this
    simpa using this.symm
  have h2 : m = j := by
    rcases Nat.lt_or_ge m j with q | q
    · have hml : m < ps.length := by omega
      have e := hl m _ (List.getElem?_eq_getElem hml)
      rw [hb m _ q (List.getElem?_eq_getElem hml)] at e
      simp at e
    · omega
  subst h2
  refine ⟨by rw [put_size']; exact hz, m + 1, by omega, fun k q hq => ?_, ?_⟩
  · by_cases hk : k = m
    · subst hk
      rw [hp] at hq; cases hq
      rw [getD_at hpl]
      simp
    · have hne : p ≠ q := fun e => hk (by
        subst e
        exact ((List.getElem?_inj hjl hnp).1 (by rw [hp, hq])).symm)
      rw [getD_ne hne, hl k q hq]
      by_cases hkm : k < m <;> simp [hkm] <;> omega
  · rw [List.take_add_one, hd, List.map_append]
    simp only [Option.toList_some, List.map_cons, List.map_nil]
    rw [Rg.put_getD_eq v (by rw [hz]; exact hds), List.map_congr_left (g := fun s => a.tmps.getD s undef)]
    · exact hQ
    · intro s hs
      refine Rg.put_getD_ne v (fun e => ?_)
      subst e
      obtain ⟨i, hi⟩ := List.mem_iff_getElem?.1 hs
      have hil : i < m := by
        have := (List.getElem?_eq_some_iff.1 hi).1
        simp at this; omega
      rw [List.getElem?_take, if_pos hil] at hi
      have := (List.getElem?_inj hds' hns).1 (hd.trans hi.symm)
      omega
/-- .. both at once -/
theorem Ch.come (h : Ch Q sz ps ss listed a w) {j p d : Nat} (hp : ps[j]? = some p) (hd : ss[j]? = some d) (hn : listed.getD p false = false) (hb : ∀ i q, i < j → ps[i]? = some q → listed.getD q false = true) (hlen : ps.length = ss.length)
    (hpl : p < listed.size) (hds : d < sz) (hnp : ps.Nodup) (hns : ss.Nodup) : Q j w ((ss.take j).map (fun s => a.tmps.getD s undef)) ∧
      ∀ v w2, Q (j + 1) w2 ((ss.take j).map (fun s => a.tmps.getD s undef) ++ [v]) → Ch Q sz ps ss (listed.setIfInBounds p true) (a.put (some d) v) w2 :=
  ⟨h.at hp hn hb hlen, fun _ _ hQ => h.step hp hd hn hb hlen hpl hds hnp hns hQ⟩
/-- all have come -/
theorem Ch.all (h : Ch Q sz ps ss listed a w) (hlen : ps.length = ss.length) (hb : ∀ q ∈ ps, listed.getD q false = true) : Q ss.length w (ss.map (fun s => a.tmps.getD s undef)) := by
  obtain ⟨-, m, hm, hl, hq⟩ := h
  have h2 : m = ss.length := by
    rcases Nat.lt_or_ge m ss.length with q | q
    · have e := hl m _ (List.getElem?_eq_getElem (show m < ps.length by omega))
      rw [hb _ (List.getElem_mem _)] at e
      simp at e
    · omega
  subst h2
  rw [List.take_length] at hq
  exact hq
end

theorem nm_at {w : World} {D : Nat → Prop} {g : Nat} {s : Str} (h : w.heap[g]? = some (.cells #[St s] 9 (0, 0))) (hD : ¬ D g) : Nm w D (.slice (some ⟨g, 0, none⟩) 1 1) [s] :=
  ⟨_, 1, rfl, Nat.le_refl _, by simp [maxLen], .inr ⟨g, 0, rfl, hD, fun i hi => by
    have : i = 0 := by simpa using hi
    subst this
    exact cell_of_get h 0⟩⟩
/-- a text put behind a row of one's own: laid, put there -/
def QA (B : Nat) (wr : World) (v0 : Value) (l : List Str) (s : Str) : Nat → World → List Value → Prop
  | 0, w, _ => Grew wr w
  | 1, w, [u] => Grew wr w ∧ ∃ g, u = .slice (some ⟨g, 0, none⟩) 1 1 ∧ w.heap[g]? = some (.cells #[St s] 9 (0, 0))
  | 2, w, [_, v] => Rt B w v (l ++ [s]) ∧ Fr (fun k => v0.ownBlock = some k) wr w
  | _, _, _ => False
theorem QA.build {B : Nat} {wr w : World} {v0 : Value} {l : List Str} {s : Str} (h : Grew wr w) : QA B wr v0 l s 1 (w.alloc (.cells #[St s] 9)) [.slice (some ⟨w.heap.size, 0, none⟩) 1 1] :=
  ⟨h.trans ((Fr.refl _ _).alloc _) (fun _ _ f => f), _, rfl, heap_alloc_new _ _⟩
theorem QA.app {B : Nat} {wr w : World} {v0 u : Value} {l : List Str} {s : Str} (h : QA B wr v0 l s 1 w [u]) (hr : Rt B wr v0 l) (hB : B ≤ wr.heap.size) (hl : l.length ≤ 900000) (ty : TypeId) :
    ∃ v w', (Builtin.append_ #[25, 25] ty #[v0, u]).run Try.prog w = .ok v w' ∧ QA B wr v0 l s 2 w' [u, v] ∧ Fr (fun k => v0.ownBlock = some k) w w' := by
  obtain ⟨hg, g, rfl, hc⟩ := h
  obtain ⟨v1, w6, h1, h2, h3, -⟩ := app_rt (rt_kept hr hg (fun _ _ f => f)) (by have := hg.size; omega) (nm_at (D := fun _ => False) hc (fun f => f)) (by simp; omega) ty
  exact ⟨v1, w6, h1, ⟨h2, (Grew.any hg).trans h3 (fun _ _ e => e)⟩, h3⟩
end Go.Proofs.Ytddcfnjmppijjaa

/-! Rows of one's own, of whatever structs: what lies in them as data. -/
namespace Go.Proofs.Ytddcfnjmppijjaa
open Go.RowKit

theorem flat_get {α : Type} {k : Nat} {f : α → List Value} (hf : ∀ d, (f d).length = k) {L : List α} {i : Nat} {d : α} (h : L[i]? = some d) {j : Nat} (hj : j < k) : (L.flatMap f)[i * k + j]? = (f d)[j]? := by
  induction L generalizing i with
  | nil => simp at h
  | cons a r ih =>
    rw [List.flatMap_cons]
    cases i with
    | zero =>
      simp at h; subst h
      rw [Nat.zero_mul, Nat.zero_add, List.getElem?_append_left (by rw [hf]; exact hj)]
    | succ i =>
      rw [List.getElem?_append_right (by rw [hf, Nat.succ_mul]; omega), hf, Nat.succ_mul, show i * k + k + j - k = i * k + j by omega]
      exact ih (by simpa using h)
theorem flat_len {α : Type} {k : Nat} {f : α → List Value} (hf : ∀ d, (f d).length = k) (L : List α) : (L.flatMap f).length = L.length * k := by
  induction L with
  | nil => simp
  | cons a r ih => rw [List.flatMap_cons, List.length_append, hf, ih, List.length_cons, Nat.succ_mul]; omega

/-- what is known of a type of rows -/
structure ElTy (T e k : Nat) : Prop where
  ex : ∃ i z, Try.prog.underlying T = some (.slice e) ∧ Try.prog.info? e = some i ∧ i.zero = some z ∧ i.size = k ∧ i.bytes ≤ 1000 ∧ z.cells.size = k ∧ 0 < k
theorem ElTy.of {T e k bytes : Nat} {z : Value} (hT : Try.prog.underlying T = some (.slice e)) (hi : (Try.prog.info? e).map (fun i => (i.zero, i.size, i.bytes)) = some (some z, k, bytes)) (hb : bytes ≤ 1000) (hz : z.cells.size = k) (hk : 0 < k) : ElTy T e k := by
  obtain ⟨i, hi, h1, h2, h3⟩ := info_parts hi
  exact ⟨i, z, hT, hi, h1, h2, by omega, hz, hk⟩

/-- a row of one's own: L's structs one behind the other -/
def RowOf {α : Type} (e k : Nat) (f : α → List Value) (B : Nat) (w : World) (v : Value) (L : List α) : Prop := w.ownsRow B e k v L.length (L.flatMap f)
section
variable {α : Type} {e k B : Nat} {f : α → List Value} {w w' : World} {v : Value} {L : List α}
theorem RowOf.nil (e k : Nat) (f : α → List Value) (B : Nat) (w : World) : RowOf e k f B w (.slice none 0 0) [] := World.ownsRow_nil _ _ _ _
theorem RowOf.shape (h : RowOf e k f B w v L) : ∃ a c, v = .slice a L.length c ∧ L.length ≤ c ∧ c ≤ maxLen := by
  rcases h.2 with ⟨h1, h2⟩ | ⟨g, cap, cur, hv, _, _, h3, h4, _⟩
  · exact ⟨none, 0, by rw [h1, h2], by omega, by simp [maxLen]⟩
  · exact ⟨_, cap, hv, h3, h4⟩
theorem RowOf.lt (h : RowOf e k f B w v L) {g : Nat} (hg : v.ownBlock = some g) : B ≤ g ∧ g < w.heap.size := World.ownsRow.lt h g hg
theorem RowOf.kept {F : Nat → Prop} (h : RowOf e k f B w v L) (q : Fr F w w') (hF : ∀ g, v.ownBlock = some g → ¬ F g) : RowOf e k f B w' v L := by
  refine ⟨h.1, ?_⟩
  rcases h.2 with h2 | ⟨g, cap, cur, rfl, hB, hg, r⟩
  · exact .inl h2
  · exact .inr ⟨g, cap, cur, rfl, hB, q.get hg (hF g rfl), r⟩
theorem RowOf.grew (h : RowOf e k f B w v L) (q : Grew w w') : RowOf e k f B w' v L := h.kept q (fun _ _ f => f)
theorem RowOf.mono {C : Nat} (h : RowOf e k f B w v L) (hC : C ≤ B) : RowOf e k f C w v L := ownsRow_le' h hC
/-- where a struct's cells lie -/
theorem RowOf.at (h : RowOf e k f B w v L) (hf : ∀ d, (f d).length = k) (hne : L ≠ []) : ∃ g cap, v = .slice (some ⟨g, 0, none⟩) L.length cap ∧ L.length ≤ cap ∧ cap ≤ maxLen ∧ B ≤ g ∧ g < w.heap.size ∧
    ∀ i d, L[i]? = some d → ∀ j, j < k → w.cell? ⟨g, i * k + j, none⟩ = (f d)[j]? := by
  have hpos : 0 < L.length := List.length_pos_iff.2 hne
  have h' := h
  rcases h.2 with ⟨rfl, h2⟩ | ⟨g, cap, cur, rfl, hB, hg, h3, h4, h5, h6⟩
  · omega
  · refine ⟨g, cap, rfl, h3, h4, hB, lt_of_get hg, fun i d hd j hj => ?_⟩
    have hil := (List.getElem?_eq_some_iff.1 hd).1
    have e1 := flat_get hf hd hj
    obtain ⟨u, hu⟩ := at_of_lt (l := f d) (i := j) (by rw [hf]; exact hj)
    rw [hu] at e1 ⊢
    have := World.ownsRow.cells h' (g := g) rfl (i * k + j) u e1
    rwa [addr_at, Nat.zero_add] at this
theorem RowOf.app {T : Nat} (h : RowOf e k f B w v L) (ht : ElTy T e k) (hf : ∀ d, (f d).length = k) (hB : B ≤ w.heap.size) (hl : L.length ≤ 900000) {d : α} {gu : Nat}
    (hc : w.heap[gu]? = some (.cells (f d).toArray e (0, 0))) (h1 : ∀ u ∈ f d, u.oneCell' = true) (ty : TypeId) :
    ∃ v' w', (Builtin.append_ #[T, T] ty #[v, .slice (some ⟨gu, 0, none⟩) 1 1]).run Try.prog w = .ok v' w' ∧ RowOf e k f B w' v' (L ++ [d]) ∧ Fr (fun b => v.ownBlock = some b) w w' ∧ (∀ g, v'.ownBlock = some g → v.ownBlock = some g ∨ w.heap.size ≤ g) ∧ ∃ a m c, v' = .slice a m c := by
  obtain ⟨i, z, hT, hi, hz, hs, hb, hzc, hk⟩ := ht.ex
  obtain ⟨v', w', hr, ho, hfr, hg⟩ := app_gen hT hi hz hs rfl hzc hk h hB ⟨gu, 0, none⟩ 1 1 (f d) (by rw [hf]; omega) (fun j u hj => by
    rw [addr_at, Nat.zero_add, cell_of_get hc]
    simpa using hj) h1 (by omega) hb ty
  have ho' : RowOf e k f B w' v' (L ++ [d]) := by
    unfold RowOf
    rw [List.length_append, List.flatMap_append]
    simpa using ho
  obtain ⟨a, c, e1, -⟩ := ho'.shape
  exact ⟨v', w', hr, ho', hfr, hg, a, _, c, e1⟩
end

/-- a struct put behind a row of one's own: laid, put there -/
def QR {α : Type} (e k : Nat) (f : α → List Value) (B : Nat) (wr : World) (v0 : Value) (L : List α) (d : α) : Nat → World → List Value → Prop
  | 0, w, _ => Grew wr w
  | 1, w, [u] => Grew wr w ∧ ∃ g, u = .slice (some ⟨g, 0, none⟩) 1 1 ∧ w.heap[g]? = some (.cells (f d).toArray e (0, 0))
  | 2, w, [_, v] => RowOf e k f B w v (L ++ [d]) ∧ Fr (fun k => v0.ownBlock = some k) wr w ∧ (∀ g, v.ownBlock = some g → v0.ownBlock = some g ∨ wr.heap.size ≤ g) ∧ ∃ a m c, v = .slice a m c
  | _, _, _ => False
theorem QR.build {α : Type} {e k : Nat} {f : α → List Value} {B : Nat} {wr w : World} {v0 : Value} {L : List α} {d : α} (h : Grew wr w) : QR e k f B wr v0 L d 1 (w.alloc (.cells (f d).toArray e)) [.slice (some ⟨w.heap.size, 0, none⟩) 1 1] :=
  ⟨h.trans ((Fr.refl _ _).alloc _) (fun _ _ f => f), _, rfl, heap_alloc_new _ _⟩
theorem QR.app {α : Type} {T e k : Nat} {f : α → List Value} {B : Nat} {wr w : World} {v0 u : Value} {L : List α} {d : α} (h : QR e k f B wr v0 L d 1 w [u]) (hr : RowOf e k f B wr v0 L) (ht : ElTy T e k) (hf : ∀ d, (f d).length = k) (h1 : ∀ u ∈ f d, u.oneCell' = true) (hB : B ≤ wr.heap.size) (hl : L.length ≤ 900000) (ty : TypeId) :
    ∃ v w', (Builtin.append_ #[T, T] ty #[v0, u]).run Try.prog w = .ok v w' ∧ QR e k f B wr v0 L d 2 w' [u, v] ∧ Fr (fun k => v0.ownBlock = some k) w w' := by
  obtain ⟨hg, g, rfl, hc⟩ := h
  obtain ⟨v1, w6, e1, e2, e3, e4, e5⟩ := (hr.grew hg).app ht hf (by have := hg.size; omega) hl hc h1 ty
  exact ⟨v1, w6, e1, ⟨e2, (Grew.any hg).trans e3 (fun _ _ e => e), fun g hgg => (e4 g hgg).imp id (fun q => by have := hg.size; omega), e5⟩, e3⟩
end Go.Proofs.Ytddcfnjmppijjaa

/-! Needs of one's own: rows of truths, read and written. -/
namespace Go.Proofs.Ytddcfnjmppijjaa
open Go.RowKit

/-- a row of truths of one's own -/
def Rb (B : Nat) (w : World) (v : Value) (bs : List Bool) : Prop := w.ownsRow B 4 1 v bs.length (bs.map Value.bool)
theorem ty40 : ElTy 40 4 1 := .of (bytes := 1) (z := .bool false) (by kernel_rfl) (by kernel_rfl) (by omega) rfl (by omega)
section
variable {B : Nat} {w w' : World} {v : Value} {bs : List Bool}
theorem Rb.lt (h : Rb B w v bs) {g : Nat} (hg : v.ownBlock = some g) : B ≤ g ∧ g < w.heap.size := World.ownsRow.lt h g hg
theorem Rb.nil (B : Nat) (w : World) : Rb B w (.slice none 0 0) [] := World.ownsRow_nil _ _ _ _
theorem Rb.mono {C : Nat} (h : Rb B w v bs) (hC : C ≤ B) : Rb C w v bs := ownsRow_le' h hC
theorem Rb.kept {F : Nat → Prop} (h : Rb B w v bs) (q : Fr F w w') (hF : ∀ g, v.ownBlock = some g → ¬ F g) : Rb B w' v bs := by
  refine ⟨h.1, ?_⟩
  rcases h.2 with h2 | ⟨g, cap, cur, rfl, hB, hg, r⟩
  · exact .inl h2
  · exact .inr ⟨g, cap, cur, rfl, hB, q.get hg (hF g rfl), r⟩
theorem Rb.shape (h : Rb B w v bs) : ∃ a c, v = .slice a bs.length c ∧ bs.length ≤ c ∧ c ≤ maxLen := by
  rcases h.2 with ⟨h1, h2⟩ | ⟨g, cap, cur, hv, _, _, h3, h4, _⟩
  · exact ⟨none, 0, by rw [h1, h2], by omega, by simp [maxLen]⟩
  · exact ⟨_, cap, hv, h3, h4⟩
theorem Rb.at (h : Rb B w v bs) (hne : bs ≠ []) : ∃ g cap, v = .slice (some ⟨g, 0, none⟩) bs.length cap ∧ bs.length ≤ cap ∧ cap ≤ maxLen ∧ B ≤ g ∧ g < w.heap.size ∧ (∀ i q, bs[i]? = some q → w.cell? ⟨g, i, none⟩ = some (.bool q)) ∧ ∀ i, w.frozen? ⟨g, i, none⟩ = false := by
  have hpos : 0 < bs.length := List.length_pos_iff.2 hne
  have h' := h
  rcases h.2 with ⟨rfl, h2⟩ | ⟨g, cap, cur, rfl, hB, hg, h3, h4, h5, h6⟩
  · omega
  · refine ⟨g, cap, rfl, h3, h4, hB, lt_of_get hg, fun i q hq => ?_, fun i => frozen_of_get hg i⟩
    have := World.ownsRow.cells h' (g := g) rfl i (.bool q) (by rw [List.getElem?_map, hq]; rfl)
    rwa [addr_at, Nat.zero_add] at this
theorem Rb.set {g n cap : Nat} (h : Rb B w (.slice (some ⟨g, 0, none⟩) n cap) bs) {i : Nat} (_hi : i < bs.length) (q : Bool) : Rb B (w.setCell ⟨g, i, none⟩ (.bool q)) (.slice (some ⟨g, 0, none⟩) n cap) (bs.set i q) := by
  have hn : n = bs.length := by
    obtain ⟨a, c, e, -⟩ := h.shape
    simp only [Value.slice.injEq] at e
    exact e.2.1
  subst hn
  refine ⟨by simp, ?_⟩
  rcases h.2 with ⟨h1, h2⟩ | ⟨g', cap', cur, e, hB, hg, h3, h4, h5, h6⟩
  · cases h1
  · simp only [Value.slice.injEq, Option.some.injEq, Addr.mk.injEq, and_true, true_and] at e
    obtain ⟨rfl, rfl⟩ := e
    refine .inr ⟨g, cap, cur.setIfInBounds i (.bool q), by rw [List.length_set], hB, ?_, by rw [List.length_set]; exact h3, h4, by simpa using h5, ?_⟩
    · simp only [World.setCell]
      rw [Array.getElem?_modify, if_pos rfl, hg]
      simp
    · rw [Array.toList_setIfInBounds, List.length_set, List.map_set, ← h6, Nat.mul_one, List.take_set]
/-- how many are true -/
def trueV (w : World) (v : Value) : Nat := match v with
  | .slice (some a) n _ => (List.range n).countP (fun i => match w.cell? ⟨a.block, a.off + i, none⟩ with | some (.bool true) => true | _ => false)
  | _ => 0
theorem countP_range (f : Nat → Bool) (bs : List Bool) (h : ∀ i q, bs[i]? = some q → f i = q) : (List.range bs.length).countP f = bs.count true := by
  induction bs generalizing f with
  | nil => rfl
  | cons b r ih =>
    rw [List.length_cons, List.range_succ_eq_map, List.countP_cons, List.countP_map, ih (f ∘ Nat.succ) (fun i q hq => h (i + 1) q (by simpa using hq)), h 0 b rfl, List.count_cons]
    cases b <;> rfl
theorem Rb.trues (h : Rb B w v bs) : trueV w v = bs.count true := by
  by_cases hne : bs = []
  · subst hne
    obtain ⟨a, c, rfl, -⟩ := h.shape
    cases a <;> rfl
  · obtain ⟨g, cap, rfl, -, -, -, -, hc, -⟩ := h.at hne
    unfold trueV
    refine countP_range _ bs (fun i q hq => ?_)
    simp only [Nat.zero_add]
    rw [hc i q hq]
    cases q <;> rfl
end
theorem count_set {bs : List Bool} {i : Nat} (h : bs[i]? = some true) : (bs.set i false).count true + 1 = bs.count true := by
  induction bs generalizing i with
  | nil => simp at h
  | cons b r ih =>
    cases i with
    | zero => simp at h; subst h; simp
    | succ i =>
      have := ih (i := i) (by simpa using h)
      cases b <;> simp <;> omega

/-- a need in memory: a name, a row of truths -/
structure NdD where
  s : Str
  n : Nat
  ao : Option Addr
  co : Nat
def NdD.v (d : NdD) : Value := .slice d.ao d.n d.co
def NdD.cells (d : NdD) : List Value := [St d.s, d.v]
theorem NdD.len (d : NdD) : d.cells.length = 2 := rfl
theorem NdD.one (d : NdD) : ∀ u ∈ d.cells, u.oneCell' = true := fun u hu => by
  simp [NdD.cells, NdD.v] at hu
  rcases hu with rfl | rfl <;> rfl

/-- needs of one's own -/
structure NS (e B : Nat) (w : World) (v : Value) (L : List NdD) (nl : Ned) : Prop where
  row : RowOf e 2 NdD.cells B w v L
  len : nl.length = L.length
  el : ∀ (i : Nat) (d : NdD), L[i]? = some d → ∃ bs, nl[i]? = some (d.s, bs) ∧ bs.length = d.n ∧ Rb B w d.v bs
  row' : ∀ (i : Nat) (d : NdD), L[i]? = some d → ∀ g, d.v.ownBlock = some g → v.ownBlock ≠ some g
  sep : ∀ (i j : Nat) (d d' : NdD), L[i]? = some d → L[j]? = some d' → ∀ g, d.v.ownBlock = some g → d'.v.ownBlock = some g → i = j
section
variable {e B : Nat} {w w' : World} {v : Value} {L : List NdD} {nl : Ned}
theorem NS.grew (h : NS e B w v L nl) (k : Grew w w') : NS e B w' v L nl :=
  ⟨h.row.grew k, h.len, fun i d hd => by obtain ⟨bs, h1, h2, h3⟩ := h.el i d hd; exact ⟨bs, h1, h2, h3.kept k (fun _ _ f => f)⟩, h.row', h.sep⟩
theorem NS.kept {F : Nat → Prop} (h : NS e B w v L nl) (k : Fr F w w') (hF : ∀ b, F b → b < B) : NS e B w' v L nl :=
  ⟨h.row.kept k (fun g hg f => by have := (h.row.lt hg).1; have := hF g f; omega), h.len, fun i d hd => by
    obtain ⟨bs, h1, h2, h3⟩ := h.el i d hd
    exact ⟨bs, h1, h2, h3.kept k (fun g hg f => by have := (h3.lt hg).1; have := hF g f; omega)⟩, h.row', h.sep⟩
/-- they read as needs -/
theorem NS.nd (h : NS e B w v L nl) : Nd w (fun b => b < B) v nl := by
  obtain ⟨a, c, rfl, h1, h2⟩ := h.row.shape
  refine ⟨a, c, by rw [h.len], by rw [h.len]; exact h1, h2, ?_⟩
  by_cases hne : L = []
  · left
    have := h.len
    rw [hne] at this
    exact List.eq_nil_of_length_eq_zero this
  · obtain ⟨g, cap, e1, -, -, h3, -, h4⟩ := h.row.at NdD.len hne
    simp only [Value.slice.injEq] at e1
    obtain ⟨rfl, -, rfl⟩ := e1
    refine .inr ⟨g, 0, rfl, by omega, fun i n hn => ?_⟩
    obtain ⟨d, hd⟩ := at_of_lt (l := L) (i := i) (by have := (List.getElem?_eq_some_iff.1 hn).1; have := h.len; omega)
    obtain ⟨bs, k1, k2, k3⟩ := h.el i d hd
    rw [hn] at k1
    cases k1
    have c0 := h4 i d hd 0 (by omega)
    have c1 := h4 i d hd 1 (by omega)
    rw [Nat.zero_add]
    refine ⟨c0, d.ao, d.co, ?_, ?_⟩
    · rw [k2]; exact c1
    · have e2 : d.v = .slice d.ao bs.length d.co := by rw [k2]; rfl
      rw [e2] at k3
      obtain ⟨a', c', e3, h5, h6⟩ := k3.shape
      simp only [Value.slice.injEq] at e3
      obtain ⟨-, -, e3⟩ := e3
      refine ⟨d.ao, d.co, rfl, by rw [e3]; exact h5, by rw [e3]; exact h6, ?_⟩
      by_cases hb : bs = []
      · exact .inl hb
      · obtain ⟨g2, cap2, e4, -, -, h7, -, h8, -⟩ := k3.at hb
        simp only [Value.slice.injEq] at e4
        exact .inr ⟨g2, 0, e4.1, by omega, fun i b hi => by rw [Nat.zero_add]; exact h8 i b hi⟩
/-- one truth is written over -/
theorem NS.set {n cap : Nat} (h : NS e B w v L nl) {i k g : Nat} {d : NdD} {bs : List Bool} (hd : L[i]? = some d) (hn : nl[i]? = some (d.s, bs)) (hg : d.v = .slice (some ⟨g, 0, none⟩) n cap) (hk : k < bs.length) (q : Bool) :
    NS e B (w.setCell ⟨g, k, none⟩ (.bool q)) v L (nl.set i (d.s, bs.set k q)) := by
  have hf : Fr (fun b => b = g) w (w.setCell ⟨g, k, none⟩ (.bool q)) := (Fr.refl (fun b => b = g) w).setCell (p := ⟨g, k, none⟩) (fun _ => rfl) _
  have hgo : d.v.ownBlock = some g := by rw [hg]; rfl
  refine ⟨h.row.kept hf (fun g' hg' e => h.row' i d hd g hgo (by rw [hg', e])), by rw [List.length_set]; exact h.len, fun j d' hd' => ?_, h.row', h.sep⟩
  by_cases hij : i = j
  · subst hij
    rw [hd] at hd'; cases hd'
    obtain ⟨bs', k1, k2, k3⟩ := h.el i d hd
    rw [hn] at k1
    cases k1
    refine ⟨bs.set k q, by rw [List.getElem?_set_self (by have := (List.getElem?_eq_some_iff.1 hn).1; exact this)], by rw [List.length_set]; exact k2, ?_⟩
    rw [hg] at k3 ⊢
    exact k3.set hk q
  · obtain ⟨bs', k1, k2, k3⟩ := h.el j d' hd'
    refine ⟨bs', by rw [List.getElem?_set_ne hij]; exact k1, k2, k3.kept hf (fun g' hg' e => hij (h.sep i j d d' hd hd' g hgo (by rw [hg', e])))⟩

/-- how many truths there are -/
def tot (nl : Ned) : Nat := (nl.map (fun n => n.2.count true)).sum
def totW (w : World) (L : List NdD) : Nat := (L.map (fun d => trueV w d.v)).sum
theorem NS.tot (h : NS e B w v L nl) : totW w L = tot nl := by
  unfold totW Ytddcfnjmppijjaa.tot
  congr 1
  apply List.ext_getElem?
  intro i
  rw [List.getElem?_map, List.getElem?_map]
  cases hd : L[i]? with
  | none =>
    have : nl[i]? = none := by
      rw [List.getElem?_eq_none_iff] at hd ⊢
      have := h.len; omega
    rw [this]; rfl
  | some d =>
    obtain ⟨bs, h1, -, h3⟩ := h.el i d hd
    rw [h1]
    simp [h3.trues]
theorem tot_set {i : Nat} {s : Str} {bs bs' : List Bool} (h : nl[i]? = some (s, bs)) : tot (nl.set i (s, bs')) + bs.count true = tot nl + bs'.count true := by
  unfold Ytddcfnjmppijjaa.tot
  induction nl generalizing i with
  | nil => simp at h
  | cons n r ih =>
    cases i with
    | zero => simp at h; subst h; simp; omega
    | succ i =>
      have := ih (i := i) (by simpa using h)
      simp only [List.set_cons_succ, List.map_cons, List.sum_cons]; omega
end

/-- the first k reckoned anew -/
noncomputable def nxtTo (d : DS) (ns : List Str) (bs : List Bool) (k : Nat) : List Bool := (nxt d ns bs).take k ++ bs.drop k
theorem nxt_len (d : DS) (ns : List Str) (bs : List Bool) : (nxt d ns bs).length = bs.length := (nxt_le d ns bs).len
theorem nxtTo_zero (d : DS) (ns : List Str) (bs : List Bool) : nxtTo d ns bs 0 = bs := by simp [nxtTo]
theorem nxtTo_all (d : DS) (ns : List Str) (bs : List Bool) {k : Nat} (h : bs.length ≤ k) : nxtTo d ns bs k = nxt d ns bs := by
  unfold nxtTo
  rw [List.take_of_length_le (by rw [nxt_len]; exact h), List.drop_of_length_le h, List.append_nil]
theorem nxtTo_len (d : DS) (ns : List Str) (bs : List Bool) (k : Nat) : (nxtTo d ns bs k).length = bs.length := by
  unfold nxtTo
  rw [List.length_append, List.length_take, List.length_drop, nxt_len]; omega
theorem nxtTo_at (d : DS) (ns : List Str) (bs : List Bool) (k : Nat) : (nxtTo d ns bs k)[k]? = bs[k]? := by
  unfold nxtTo
  by_cases hk : k < bs.length
  · have hl : ((nxt d ns bs).take k).length = k := by rw [List.length_take, nxt_len]; omega
    rw [List.getElem?_append_right (by omega), hl, Nat.sub_self, List.getElem?_drop, Nat.add_zero]
  · rw [List.getElem?_eq_none (by rw [List.length_append, List.length_take, List.length_drop, nxt_len]; omega), List.getElem?_eq_none (by omega)]
open Classical in
theorem nxt_at (d : DS) {ns : List Str} {bs : List Bool} {k : Nat} {s : Str} {b : Bool} (hs : ns[k]? = some s) (hb : bs[k]? = some b) : (nxt d ns bs)[k]? = some (b && decide (d.all ∨ d.mem s)) := by
  induction bs generalizing ns k with
  | nil => simp at hb
  | cons c r ih =>
    cases ns with
    | nil => simp at hs
    | cons t m =>
      cases k with
      | zero => simp at hs hb; subst hs; subst hb; simp [nxt]
      | succ k => exact ih (ns := m) (by simpa using hs) (by simpa using hb)
theorem nxtTo_same (d : DS) {ns : List Str} {bs : List Bool} {k : Nat} {b : Bool} (hb : bs[k]? = some b) (hn : (nxt d ns bs)[k]? = some b) : nxtTo d ns bs (k + 1) = nxtTo d ns bs k := by
  unfold nxtTo
  rw [List.take_add_one, hn]
  obtain ⟨hk, e⟩ := List.getElem?_eq_some_iff.1 hb
  rw [List.drop_eq_getElem_cons hk, e]
  simp
theorem nxtTo_turn (d : DS) {ns : List Str} {bs : List Bool} {k : Nat} {b c : Bool} (hb : bs[k]? = some b) (hn : (nxt d ns bs)[k]? = some c) : nxtTo d ns bs (k + 1) = (nxtTo d ns bs k).set k c := by
  unfold nxtTo
  obtain ⟨hk, e⟩ := List.getElem?_eq_some_iff.1 hb
  have hl : ((nxt d ns bs).take k).length = k := by rw [List.length_take, nxt_len]; omega
  rw [List.take_add_one, hn, List.drop_eq_getElem_cons hk, List.set_append_right _ _ (by omega), hl, Nat.sub_self, List.set_cons_zero]
  simp
end Go.Proofs.Ytddcfnjmppijjaa

/-! Regions with two chains of operations that make memory: rows of two kinds, put behind. -/
namespace Go.Proofs.Ytddcfnjmppijjaa
open Go.RowKit

/-- an operation of the other chain has come -/
theorem Ch.other {Q : Nat → World → List Value → Prop} {sz : Nat} {ps ss : List Nat} {listed : Array Bool} {a : Act} {w w2 : World} (h : Ch Q sz ps ss listed a w) (hst : ∀ j vals, Q j w vals → Q j w2 vals) {i d : Nat} (v : Value) (h1 : i ∉ ps) (h2 : d ∉ ss) :
    Ch Q sz ps ss (listed.setIfInBounds i true) (a.put (some d) v) w2 := by
  obtain ⟨k1, j, k2, k3, k4⟩ := h.pure v h1 h2
  exact ⟨k1, j, k2, k3, hst _ _ k4⟩

/-- a struct put behind a row of one's own, while other things come -/
def QD {α : Type} (e k : Nat) (f : α → List Value) (B B2 : Nat) (v0 : Value) (L : List α) (d : α) : Nat → World → List Value → Prop
  | 0, w, _ => RowOf e k f B w v0 L
  | 1, w, [u] => RowOf e k f B w v0 L ∧ ∃ g, u = .slice (some ⟨g, 0, none⟩) 1 1 ∧ w.heap[g]? = some (.cells (f d).toArray e (0, 0))
  | 2, w, [_, v] => RowOf e k f B w v (L ++ [d]) ∧ (∃ a m c, v = .slice a m c) ∧ ∀ g, v.ownBlock = some g → v0.ownBlock = some g ∨ B2 ≤ g
  | _, _, _ => False
section
variable {α : Type} {e k : Nat} {f : α → List Value} {B B2 : Nat} {v0 : Value} {L : List α} {d : α} {w w2 : World}
theorem RowOf.type (h : RowOf e k f B w v0 L) {g : Nat} (hg : v0.ownBlock = some g) : ∃ c, w.heap[g]? = some (.cells c e (0, 0)) := by
  rcases h.2 with ⟨rfl, -⟩ | ⟨g', cap, cur, rfl, -, hgg, -⟩
  · cases hg
  · have : g' = g := by simpa [Value.ownBlock] using hg
    subst this
    exact ⟨cur, hgg⟩
theorem QD.other {F : Nat → Prop} {j : Nat} {vals : List Value} (h : QD e k f B B2 v0 L d j w vals) (hF : Fr F w w2) (hne : ∀ g c, F g → w.heap[g]? = some (.cells c e (0, 0)) → False) : QD e k f B B2 v0 L d j w2 vals := by
  have hr : ∀ v M, RowOf e k f B w v M → RowOf e k f B w2 v M := fun v M q => q.kept hF (fun g hg y => by
    obtain ⟨c, hc⟩ := q.type hg
    exact hne g c y hc)
  match j, vals, h with
  | 0, _, h => exact hr _ _ h
  | 1, [u], ⟨h1, g, h2, h3⟩ => exact ⟨hr _ _ h1, g, h2, hF.get h3 (fun y => hne g _ y h3)⟩
  | 2, [_, v], ⟨h1, h2⟩ => exact ⟨hr _ _ h1, h2⟩
theorem QD.build (h : RowOf e k f B w v0 L) : QD e k f B B2 v0 L d 1 (w.alloc (.cells (f d).toArray e)) [.slice (some ⟨w.heap.size, 0, none⟩) 1 1] :=
  ⟨h.grew ((Fr.refl _ _).alloc _), _, rfl, heap_alloc_new _ _⟩
theorem QD.app {T : Nat} {u : Value} (h : QD e k f B B2 v0 L d 1 w [u]) (ht : ElTy T e k) (hf : ∀ d, (f d).length = k) (h1 : ∀ u ∈ f d, u.oneCell' = true) (hB : B ≤ w.heap.size) (hB2 : B2 ≤ w.heap.size) (hl : L.length ≤ 900000) (ty : TypeId) :
    ∃ v w', (Builtin.append_ #[T, T] ty #[v0, u]).run Try.prog w = .ok v w' ∧ QD e k f B B2 v0 L d 2 w' [u, v] ∧ Fr (fun k => v0.ownBlock = some k) w w' ∧ ∀ g, v0.ownBlock = some g → ∃ c, w.heap[g]? = some (.cells c e (0, 0)) := by
  obtain ⟨hr, g, rfl, hc⟩ := h
  obtain ⟨v1, w6, e1, e2, e3, e4, e5⟩ := hr.app ht hf hB hl hc h1 ty
  exact ⟨v1, w6, e1, ⟨e2, e5, fun g hgg => (e4 g hgg).imp id (fun q => by omega)⟩, e3, fun g hg => hr.type hg⟩
end
end Go.Proofs.Ytddcfnjmppijjaa
