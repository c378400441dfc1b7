import Derived.Test.YtjhdnbediipibaaB1
/-! Plain: what is laid. -/
namespace Go.Proofs.Ytjhdnbediipibaa

/-- each new address is the sum of what came before -/
def CS.Addr (A : AH) (s : CS) : Prop := ∀ o1 p o2, s.ord = o1 ++ p :: o2 → p.2 = sumAt A (o1.map (·.1))

theorem CS.Addr.nil (A : AH) : CS.Addr A ⟨[], 0⟩ := fun o1 p o2 h => by simp at h
theorem CS.Addr.copied {A : AH} (_h : A.WF) {s : CS} (i : CS.Inv A s) (ha : CS.Addr A s) (d : Nat) {k : Int} : CS.Addr A (s.copied A d k).2 := by
  unfold CS.copied
  cases hl : lookI (A.short d k) s.ord with
  | some n => exact ha
  | none =>
    intro o1 p o2 he
    simp only [CS.put] at he
    rcases List.append_eq_append_iff.1 he with ⟨xs, h1, h2⟩ | ⟨bs, h1, h2⟩
    · cases xs with
      | nil =>
        simp at h1 h2
        obtain ⟨rfl, rfl⟩ := h2
        rw [h1]; exact i.used
      | cons a r => simp at h2
    · cases bs with
      | nil =>
        simp at h1 h2
        obtain ⟨rfl, rfl⟩ := h2
        rw [← h1]; exact i.used
      | cons a r =>
        simp only [List.cons_append, List.cons.injEq] at h2
        obtain ⟨rfl, h2⟩ := h2
        exact ha o1 _ r (by rw [h1])
theorem CS.Addr.all {A : AH} (h : A.WF) {s : CS} (i : CS.Inv A s) (ha : CS.Addr A s) (d : Nat) (l : List Int) (hl : ∀ k ∈ l, A.has k) : CS.Addr A (s.all A d l).2 := by
  refine snoc_ind (P := fun l => (∀ k ∈ l, A.has k) → CS.Addr A (s.all A d l).2) (fun _ => ha) (fun l k ih hl => ?_) l hl
  rw [CS.all_snoc]
  exact (ih (fun q hq => hl q (by simp [hq]))).copied h (i.all h d l (fun q hq => hl q (by simp [hq]))) d

/-- an object as it is laid -/
def layRow (A : AH) (p : Int × Int) (l : List Int) : Int × HObj := (p.2, ⟨A.tag p.1, l, A.nums p.1⟩)
def ofP (A : AH) (ord : List (Int × Int)) (P : List (List Int)) : AH := ⟨List.zipWith (layRow A) ord P, sumAt A (ord.map (·.1)), A.words⟩
/-- the rows fit -/
def Fits (A : AH) : List (Int × Int) → List (List Int) → Prop
  | [], [] => True
  | p :: o, l :: P => l.length = (A.ptrs p.1).length ∧ Fits A o P
  | _, _ => False

theorem Fits.len {A : AH} : ∀ {o : List (Int × Int)} {P : List (List Int)}, Fits A o P → o.length = P.length
  | [], [], _ => rfl
  | p :: o, l :: P, h => by simp [Fits.len h.2]
  | [], _ :: _, h => h.elim
  | _ :: _, [], h => h.elim
theorem Fits.append {A : AH} : ∀ {o : List (Int × Int)} {P : List (List Int)} {o2 : List (Int × Int)} {P2 : List (List Int)}, Fits A o P → Fits A o2 P2 → Fits A (o ++ o2) (P ++ P2)
  | [], [], _, _, _, h => h
  | _p :: _o, _l :: _P, _, _, h, h2 => ⟨h.1, Fits.append h.2 h2⟩
  | [], _ :: _, _, _, h, _ => h.elim
  | _ :: _, [], _, _, h, _ => h.elim
theorem Fits.map {A : AH} (f : Int × Int → List Int) (hf : ∀ p, (f p).length = (A.ptrs p.1).length) : ∀ (o : List (Int × Int)), Fits A o (o.map f)
  | [] => trivial
  | p :: o => ⟨hf p, Fits.map f hf o⟩

theorem zip_keys {A : AH} : ∀ {o : List (Int × Int)} {P : List (List Int)}, Fits A o P → (List.zipWith (layRow A) o P).map (·.1) = o.map (·.2)
  | [], [], _ => rfl
  | p :: o, l :: P, h => by simp [layRow, zip_keys h.2]
  | [], _ :: _, h => h.elim
  | _ :: _, [], h => h.elim

theorem zip_mem {A : AH} : ∀ {o : List (Int × Int)} {P : List (List Int)} {q : Int × HObj}, Fits A o P → q ∈ List.zipWith (layRow A) o P → ∃ p l, p ∈ o ∧ l ∈ P ∧ l.length = (A.ptrs p.1).length ∧ q = layRow A p l
  | [], [], q, _, hq => by simp at hq
  | p :: o, l :: P, q, h, hq => by
    rcases List.mem_cons.1 hq with rfl | hq
    · exact ⟨p, l, by simp, by simp, h.1, rfl⟩
    · obtain ⟨p', l', h1, h2, h3, h4⟩ := zip_mem h.2 hq
      exact ⟨p', l', by simp [h1], by simp [h2], h3, h4⟩
  | [], _ :: _, _, h, _ => h.elim
  | _ :: _, [], _, h, _ => h.elim

theorem shape_len {t : Int} {p q n : List Int} (h : ShapeOk t p n) (hl : q.length = p.length) : ShapeOk t q n := by
  unfold ShapeOk at *
  rw [hl]; exact h

theorem shape_of {A : AH} (h : A.WF) {k : Int} (hk : A.has k) : ShapeOk (A.tag k) (A.ptrs k) (A.nums k) := by
  obtain ⟨o, ho, hm⟩ := AH.has_find hk
  have := h.shaped.find ho
  simp only [AH.tag, AH.ptrs, AH.nums, ho, Option.map_some, Option.getD_some]
  exact this

/-- how far an address lies -/
theorem addr_lt {A : AH} {s : CS} (_hi : CS.Inv A s) (ha : CS.Addr A s) {o1 o2 : List (Int × Int)} (he : s.ord = o1 ++ o2) {p : Int × Int} (hp : p ∈ o1) : 0 ≤ p.2 ∧ p.2 < sumAt A (o1.map (·.1)) := by
  obtain ⟨a, b, rfl⟩ := List.append_of_mem hp
  have h1 := ha a p (b ++ o2) (by rw [he]; simp)
  have h2 := sumAt_ge A (a.map (·.1))
  have h3 := (A.obj p.1).sz_ge
  have h4 := sumAt_ge A (b.map (·.1))
  simp only [List.map_append, List.map_cons, sumAt_append, sumAt]
  omega

theorem addr_nodup {A : AH} {s : CS} (_hi : CS.Inv A s) (ha : CS.Addr A s) : (s.ord.map (·.2)).Pairwise (· < ·) := by
  have : ∀ o2 o1, s.ord = o1 ++ o2 → (o2.map (·.2)).Pairwise (· < ·) := by
    intro o2
    induction o2 with
    | nil => intro _ _; simp
    | cons p r ih =>
      intro o1 he
      simp only [List.map_cons, List.pairwise_cons]
      refine ⟨fun q hq => ?_, ih (o1 ++ [p]) (by rw [he]; simp)⟩
      obtain ⟨x, hx, rfl⟩ := List.mem_map.1 hq
      obtain ⟨a, b, rfl⟩ := List.append_of_mem hx
      have h1 := ha o1 p (a ++ x :: b) he
      have h2 := ha (o1 ++ p :: a) x b (by rw [he]; simp)
      have h3 := (A.obj p.1).sz_ge
      have h4 := sumAt_ge A (a.map (·.1))
      simp only [List.map_append, List.map_cons, sumAt_append, sumAt] at h2
      omega
  exact this s.ord [] rfl

/-- a heap that is laid: well enough for the next object -/
theorem ofP_fine {A : AH} (h : A.WF) {s : CS} (hi : CS.Inv A s) (ha : CS.Addr A s) {o1 o2 : List (Int × Int)} (he : s.ord = o1 ++ o2) {P : List (List Int)} (hf : Fits A o1 P) : (ofP A o1 P).Fine ∧ (ofP A o1 P).Shaped := by
  have hsum : sumAt A (o1.map (·.1)) ≤ A.words := by
    have h1 := hi.le h
    have h2 := hi.used
    rw [he, List.map_append, sumAt_append] at h2
    have h3 := sumAt_ge A (o2.map (·.1))
    have := h.uw
    omega
  have hge := sumAt_ge A (o1.map (·.1))
  have hw := h.w0
  simp at hge
  refine ⟨⟨by show 0 ≤ sumAt A _; omega, hsum, hw, ?_, ?_⟩, ?_⟩
  · show lookO _ _ = none
    rw [lookO_none]
    show sumAt A (o1.map (·.1)) ∉ (List.zipWith (layRow A) o1 P).map (·.1)
    rw [zip_keys hf]
    intro hm
    obtain ⟨p, hp, e⟩ := List.mem_map.1 hm
    have := (addr_lt hi ha he hp).2
    omega
  · show (List.zipWith (layRow A) o1 P).length ≤ 1000000
    have : (List.zipWith (layRow A) o1 P).length ≤ o1.length := by simp; omega
    omega
  · intro q hq
    obtain ⟨p, l, hp, hl, hll, rfl⟩ := zip_mem hf hq
    exact shape_len (shape_of h (hi.has p.1 (List.mem_map.2 ⟨p, by rw [he]; simp [hp], rfl⟩))) hll

theorem zip_snoc {A : AH} {o : List (Int × Int)} {P : List (List Int)} (hf : Fits A o P) (p : Int × Int) (l : List Int) : List.zipWith (layRow A) (o ++ [p]) (P ++ [l]) = List.zipWith (layRow A) o P ++ [layRow A p l] := by
  rw [List.zipWith_append hf.len]; rfl

/-- the next object is made -/
theorem ofP_add {A : AH} (h : A.WF) {s : CS} (hi : CS.Inv A s) (ha : CS.Addr A s) {o1 o2 : List (Int × Int)} {p : Int × Int} (he : s.ord = o1 ++ p :: o2) {P : List (List Int)} (hf : Fits A o1 P) :
    (ofP A o1 P).AllocOk (A.tag p.1) (List.replicate (A.ptrs p.1).length (ofP A o1 P).used) (A.nums p.1) ∧
    (ofP A o1 P).used = p.2 ∧
    (ofP A o1 P).add (A.tag p.1) (List.replicate (A.ptrs p.1).length (ofP A o1 P).used) (A.nums p.1) = ofP A (o1 ++ [p]) (P ++ [List.replicate (A.ptrs p.1).length p.2]) := by
  have hp2 := ha o1 p o2 he
  have hk : A.has p.1 := hi.has p.1 (List.mem_map.2 ⟨p, by rw [he]; simp, rfl⟩)
  have hu : (ofP A o1 P).used = p.2 := hp2.symm
  obtain ⟨e1, e2, e3⟩ := ptrs_obj hk
  have hsz : osz (List.replicate (A.ptrs p.1).length p.2) (A.nums p.1) = (A.obj p.1).sz := by
    unfold HObj.sz osz
    rw [List.length_replicate, e1, e2]
  refine ⟨⟨shape_len (shape_of h hk) (by simp), fun x hx => .inr (List.mem_replicate.1 hx).2, ?_⟩, hu, ?_⟩
  · have h1 := hi.le h
    have h2 := hi.used
    rw [he] at h2
    simp only [List.map_append, List.map_cons, sumAt_append, sumAt] at h2
    have h3 := sumAt_ge A (o2.map (·.1))
    have := h.uw
    rw [hu, hsz, hp2]
    show _ ≤ A.words
    omega
  · unfold AH.add
    rw [hu, hsz]
    unfold ofP
    rw [zip_snoc hf]
    simp only [List.map_append, List.map_cons, List.map_nil, sumAt_append, sumAt, layRow, hp2]
    congr 1
    omega

theorem updO_split (k : Int) (o o0 : HObj) : ∀ (l1 l2 : List (Int × HObj)), k ∉ l1.map (·.1) → updO k o (l1 ++ (k, o0) :: l2) = l1 ++ (k, o) :: l2
  | [], l2, _ => by simp [updO]
  | p :: r, l2, h => by
    simp only [List.map_cons, List.mem_cons, not_or] at h
    simp only [List.cons_append, updO, h.1, if_false]
    rw [updO_split k o o0 r l2 h.2]
theorem lookO_split (k : Int) (o0 : HObj) : ∀ (l1 l2 : List (Int × HObj)), k ∉ l1.map (·.1) → lookO k (l1 ++ (k, o0) :: l2) = some o0
  | [], l2, _ => by simp [lookO]
  | p :: r, l2, h => by
    simp only [List.map_cons, List.mem_cons, not_or] at h
    simp only [List.cons_append, lookO, h.1, if_false]
    rw [lookO_split k o0 r l2 h.2]

/-- a pointer is set -/
theorem ofP_set {A : AH} {s : CS} (hi : CS.Inv A s) (ha : CS.Addr A s) {o1 o2 : List (Int × Int)} {p : Int × Int} (he : s.ord = o1 ++ p :: o2) {P1 P2 : List (List Int)} {r : List Int} (hf1 : Fits A o1 P1) (hf2 : Fits A o2 P2)
    (hr : r.length = (A.ptrs p.1).length) (i : Nat) (hir : i < r.length) (to : Int) (hto : to ∈ s.ord.map (·.2)) :
    (ofP A s.ord (P1 ++ r :: P2)).SetOk p.2 i to ∧ (ofP A s.ord (P1 ++ r :: P2)).set p.2 i to = ofP A s.ord (P1 ++ r.set i to :: P2) := by
  have hfit : ∀ r' : List Int, r'.length = (A.ptrs p.1).length → Fits A s.ord (P1 ++ r' :: P2) := fun r' h' => by rw [he]; exact hf1.append ⟨h', hf2⟩
  have hz : ∀ r' : List Int, List.zipWith (layRow A) s.ord (P1 ++ r' :: P2) = List.zipWith (layRow A) o1 P1 ++ layRow A p r' :: List.zipWith (layRow A) o2 P2 := by
    intro r'
    rw [he, List.zipWith_append hf1.len]; rfl
  have hnot : p.2 ∉ (List.zipWith (layRow A) o1 P1).map (·.1) := by
    rw [zip_keys hf1]
    have hn := addr_nodup hi ha
    rw [he, List.map_append, List.map_cons] at hn
    intro hm
    have := (List.pairwise_append.1 hn).2.2 p.2 hm p.2 (by simp)
    omega
  have hfind : (ofP A s.ord (P1 ++ r :: P2)).find p.2 = some ⟨A.tag p.1, r, A.nums p.1⟩ := by
    show lookO p.2 (List.zipWith (layRow A) s.ord (P1 ++ r :: P2)) = _
    rw [hz]
    exact lookO_split _ _ _ _ hnot
  refine ⟨⟨by unfold AH.has; rw [hfind]; simp, ?_, by omega, ?_⟩, ?_⟩
  · rw [has_iff]
    show to ∈ (List.zipWith (layRow A) s.ord (P1 ++ r :: P2)).map (·.1)
    rw [zip_keys (hfit r hr)]; exact hto
  · simp only [AH.ptrs, hfind, Option.map_some, Option.getD_some]
    omega
  · unfold AH.set AH.upd
    have : (ofP A s.ord (P1 ++ r :: P2)).obj p.2 = ⟨A.tag p.1, r, A.nums p.1⟩ := by simp [AH.obj, hfind]
    rw [this]
    unfold ofP
    simp only [hz]
    have e := updO_split p.2 ⟨A.tag p.1, r.set i to, A.nums p.1⟩ ⟨A.tag p.1, r, A.nums p.1⟩ (List.zipWith (layRow A) o1 P1) (List.zipWith (layRow A) o2 P2) hnot
    simp only [Int.toNat_natCast]
    congr 1
end Go.Proofs.Ytjhdnbediipibaa
