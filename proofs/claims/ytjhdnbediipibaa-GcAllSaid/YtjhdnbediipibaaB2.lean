import Derived.Test.YtjhdnbediipibaaP2
/-! gc: lay. -/
namespace Go.Proofs.Ytjhdnbediipibaa
open Go.RowKit

/-- make([]int, n) -/
theorem make_zero (w : World) (n : Nat) (hn : n ≤ 17592186044416) :
    ∃ w', (Instr.makeSlice 22 (.int .i64 (n : Int)) (.int .i64 (n : Int))).run Try.prog w = .ok (.slice (some ⟨w.heap.size, 0, none⟩) n n) w' ∧ Ow w' (.slice (some ⟨w.heap.size, 0, none⟩) n n) (List.replicate n 0) ∧ Grew w w' := by
  obtain ⟨i, hi, h1, h2, h3⟩ := info_parts (P := Try.prog) (e := 3) (z := .int .i64 0) (size := 1) (bytes := 8) (by kernel_rfl)
  obtain ⟨w', hr, ho, hg⟩ := run_make_full (P := Try.prog) w 0 22 3 i (.int .i64 0) 1 Try.underlying22 hi h1 h2 .i64 .i64 n (by rw [h3]; omega) (by unfold maxLen; omega) (Nat.zero_le _)
  refine ⟨w', hr, ?_, (Fr.refl _ w).grown hg (fun _ e => by cases e)⟩
  unfold Ow
  rw [List.length_replicate, List.map_replicate, ← toList_madeCells_one (.int .i64 0) n]
  simpa [Value.cells] using ho

/-- an object's first pointers: to itself -/
def selfRow (A : AH) (p : Int × Int) : List Int := List.replicate (A.ptrs p.1).length p.2
/-- where an address is now -/
def CS.new (A : AH) (d : Nat) (s : CS) (k : Int) : Int := (lookI (A.short d k) s.ord).getD 0
/-- an object's pointers at last -/
def CS.row (A : AH) (d : Nat) (s : CS) (p : Int × Int) : List Int := (A.ptrs p.1).map (s.new A d)
/-- what is laid -/
def AH.gcd (A : AH) (d : Nat) (s : CS) : AH := ofP A s.ord (s.ord.map (s.row A d))
/-- all that is led to is there -/
def CS.Closed (A : AH) (d : Nat) (s : CS) : Prop := ∀ p ∈ s.ord, ∀ q ∈ A.ptrs p.1, lookI (A.short d q) s.ord ≠ none

/-- a row of just these -/
def FOw (l : List Int) (v : Value) (w : World) : Prop := (∃ a c, v = .slice a l.length c) ∧ Ow w v l
theorem FOw.stays (l : List Int) : ∀ v w w', Grew w w' → FOw l v w → FOw l v w' := fun _ _ _ hs ⟨h1, h2⟩ => ⟨h1, h2.kept hs (fun _ _ f => f)⟩

theorem lookI_split : ∀ (o1 : List (Int × Int)) (p : Int × Int) (o2 : List (Int × Int)), p.1 ∉ o1.map (·.1) → lookI p.1 (o1 ++ p :: o2) = some p.2
  | [], p, o2, _ => by simp [lookI]
  | q :: r, p, o2, h => by
    simp only [List.map_cons, List.mem_cons, not_or] at h
    simp only [List.cons_append, lookI, h.1, if_false]
    exact lookI_split r p o2 h.2
theorem lookI_mem {k n : Int} : ∀ {l : List (Int × Int)}, lookI k l = some n → n ∈ l.map (·.2)
  | [], h => by simp [lookI] at h
  | p :: r, h => by
    unfold lookI at h
    split at h
    · cases h; simp
    · have := lookI_mem h; simp only [List.map_cons, List.mem_cons]; exact .inr this

theorem CR.look1 {w : World} {cb hb d : Nat} {s : CS} {fp : List Nat} (h : CR w cb hb d s fp) (k : Int) :
    ∃ nb, w.cell? ⟨cb, 2, none⟩ = some (.map (some nb)) ∧
      (Instr.lookup 72 (.map (some nb)) (Kv k) false).run Try.prog w = .ok (Kv ((lookI k s.ord).getD 0)) w := by
  obtain ⟨nb, es, clock, ov, h1, h2, h3, h4, rfl⟩ := h
  refine ⟨nb, by rw [cell_of_get h1]; rfl, ?_⟩
  have hr := run_look Try.prog Try.u3 Try.u72 (zero3 w) h2 h3 k false
  rw [lookI_kv] at hr
  rw [hr]
  cases lookI k s.ord <;> rfl

/-- the rows, while they are set -/
def layP (A : AH) (d : Nat) (s : CS) (o1 : List (Int × Int)) (p : Int × Int) (o2 : List (Int × Int)) (i : Nat) : List (List Int) :=
  o1.map (s.row A d) ++ ((s.row A d p).take i ++ (selfRow A p).drop i) :: o2.map (selfRow A)

theorem row_len (A : AH) (d : Nat) (s : CS) (p : Int × Int) : (s.row A d p).length = (A.ptrs p.1).length := by simp [CS.row]
theorem self_len (A : AH) (p : Int × Int) : (selfRow A p).length = (A.ptrs p.1).length := by simp [selfRow]

theorem layP_fits {A : AH} {d : Nat} {s : CS} {o1 : List (Int × Int)} {p : Int × Int} {o2 : List (Int × Int)} {i : Nat} (he : s.ord = o1 ++ p :: o2) : Fits A s.ord (layP A d s o1 p o2 i) := by
  rw [he]
  unfold layP
  refine (Fits.map _ (row_len A d s) o1).append ⟨?_, Fits.map _ (self_len A) o2⟩
  simp [row_len, self_len]; omega

theorem layP_set {A : AH} {d : Nat} {s : CS} (hi : CS.Inv A s) (ha : CS.Addr A s) (hcl : CS.Closed A d s) {o1 : List (Int × Int)} {p : Int × Int} {o2 : List (Int × Int)} {i : Nat} (he : s.ord = o1 ++ p :: o2) (hin : i < (s.row A d p).length) :
    (ofP A s.ord (layP A d s o1 p o2 i)).SetOk p.2 i (s.row A d p)[i] ∧ (ofP A s.ord (layP A d s o1 p o2 i)).set p.2 i (s.row A d p)[i] = ofP A s.ord (layP A d s o1 p o2 (i + 1)) := by
  have hl := row_len A d s p
  have hl2 := self_len A p
  have hrl : ((s.row A d p).take i ++ (selfRow A p).drop i).length = (A.ptrs p.1).length := by simp [row_len, self_len]; omega
  obtain ⟨h1, h2⟩ := ofP_set hi ha he (P1 := o1.map (s.row A d)) (P2 := o2.map (selfRow A)) (r := (s.row A d p).take i ++ (selfRow A p).drop i) (Fits.map _ (row_len A d s) o1) (Fits.map _ (self_len A) o2) hrl i (by omega) (s.row A d p)[i] (by
    simp only [CS.row, List.getElem_map, CS.new]
    have hq : (A.ptrs p.1)[i]'(by omega) ∈ A.ptrs p.1 := List.getElem_mem _
    cases hk : lookI (A.short d ((A.ptrs p.1)[i]'(by omega))) s.ord with
    | none => exact absurd hk (hcl p (by rw [he]; simp) _ hq)
    | some n => exact lookI_mem hk)
  refine ⟨h1, ?_⟩
  unfold layP
  rw [h2]
  congr 3
  rw [List.set_append_right _ _ (by simp; omega), List.length_take, Nat.min_eq_left (by omega), Nat.sub_self, List.drop_eq_getElem_cons (by omega), List.set_cons_zero, List.take_succ_eq_append_getElem hin, List.append_assoc]
  rfl

def LayRel (w : World) (ob : Nat) (H : AH) (fpo : List Nat) (wr : World) : Prop :=
  ∃ fpr, PH wr ob H fpr ∧ Fr (· ∈ fpo) w wr ∧ ∀ b ∈ fpr, b ∈ fpo ∨ w.heap.size ≤ b
def FillRel (w2 : World) (g : Nat) (n k : Nat) (u : Int) (wr : World) : Prop :=
  Ow wr (.slice (some ⟨g, 0, none⟩) n n) (List.replicate k u ++ List.replicate (n - k) 0) ∧ Fr (· = g) w2 wr

set_option maxHeartbeats 4000000 in
set_option maxRecDepth 100000 in
theorem lay_any {hb cb ob : Nat} {A : AH} {fp fp2 fpo : List Nat} {d : Nat} {s : CS} {w : World} (hA : A.WF) (hi : CS.Inv A s) (ha : CS.Addr A s) (hcl : CS.Closed A d s) (hd : d ≤ 1000)
    (h : PH w hb A fp) (hC : CR w cb hb d s fp2) (hO : PH w ob ⟨[], 0, A.words⟩ fpo) (hd1 : ∀ b ∈ fpo, b ∉ fp) (hd2 : ∀ b ∈ fpo, b ∉ fp2) :
    Calls Try.prog 51 #[.pointer (some ⟨cb, 0, none⟩), .pointer (some ⟨ob, 0, none⟩)] w fun e w' => e = .returned (.tuple #[]) ∧ LayRel w ob (A.gcd d s) fpo w' := by
  have HPH := hid h
  have HCR := hid hC
  have hstart : LayRel w ob (ofP A [] []) fpo w := ⟨fpo, by simpa [ofP, sumAt] using hO, Fr.refl _ _, fun b hb' => .inl hb'⟩
  have HS := hid hstart
  have hle := hi.le hA
  have hws := hA.w0
  have huw := hA.uw
  have hlen := hA.len
  have HA := hid hA
  have HI := hid hi
  have HAd := hid ha
  have HCL := hid hcl
  have HD1 := hid hd1
  have HD2 := hid hd2
  have HLT := hid h.lt
  have HLT2 := hid hC.lt
  obtain ⟨nb, es, clock, ov, h1, h2, h3, h4, h5⟩ := hC
  obtain ⟨oa, oc, rfl, hoc, hom⟩ := h4.shape
  rw [List.length_map] at h1 h4
  have c3 : w.cell? ⟨cb, 3, none⟩ = some (.slice oa s.ord.length oc) := by rw [cell_of_get h1]; rfl
  have hol : s.ord.length ≤ 1000000 := by omega
  have HOV := hid h4
  have HC1 := hid h1
  have H5 := hid h5
  rw [List.length_map] at hoc
  clear h hstart hA hi ha hcl hd1 hd2 h1 h2 h3 h4 h5 hO hom
  go_enter Try.func51, Try.ntmps51
  go_wp2
  go_loopw [17] (fun i wr => ∃ k : Nat, k ≤ s.ord.length ∧ i = .int .i64 k ∧ LayRel w ob (ofP A (s.ord.take k) ((s.ord.take k).map (selfRow A))) fpo wr) (fun i _ => s.ord.length - (intOf i).toNat)
  case atStart => exact ⟨0, Nat.zero_le _, rfl, HS.out⟩
  case round =>
    obtain ⟨k, hk, rfl, hr⟩ := hrel
    obtain ⟨fpr, r1, r2, r3⟩ := hr
    by_cases hlt : k < s.ord.length
    · have hov := HOV.out.kept r2 (fun g hg hm => HD2.out g hm (by rw [H5.out]; simp only [List.mem_cons, Option.mem_toList]; exact .inr (.inr (by simpa [Value.ownBlock] using hg))))
      have hcbo : cb ∉ fpo := fun hm => HD2.out cb hm (by rw [H5.out]; simp)
      have hc1r := r2.get HC1.out hcbo
      have c0r : wr.cell? ⟨cb, 0, none⟩ = some (.pointer (some ⟨hb, 0, none⟩)) := by rw [cell_of_get hc1r]; rfl
      obtain ⟨g0, cap, he, _, _, _, hcell⟩ := hov.at (by simp; omega)
      rw [List.length_map] at he
      cases he
      have hc0 := (hcell k (by simpa using hlt)).1
      rw [List.getElem_map] at hc0
      obtain ⟨o1, p, o2, hord, hk1, hpk⟩ : ∃ o1 p o2, s.ord = o1 ++ p :: o2 ∧ o1.length = k ∧ s.ord[k] = p :=
        ⟨s.ord.take k, s.ord[k], s.ord.drop (k + 1), by rw [← List.drop_eq_getElem_cons hlt, List.take_append_drop], by rw [List.length_take]; omega, rfl⟩
      rw [hpk] at hc0
      have htk : s.ord.take k = o1 := by rw [hord, ← hk1]; simp
      have htk1 : s.ord.take (k + 1) = o1 ++ [p] := by rw [List.take_succ_eq_append_getElem hlt, htk, hpk]
      rw [htk] at r1
      have hz : A.has p.1 := HI.out.has p.1 (List.mem_map.2 ⟨p, by rw [hord]; simp, rfl⟩)
      have hPHr := HPH.out.kept r2 (fun b hb' hm => HD1.out b hm hb')
      have hpl := HA.out.shaped.ptrs_le p.1
      have hnl := HA.out.shaped.nums_le p.1
      have hptr := ptrs_any hPHr p.1 (by omega)
      have hord' := HI.out
      have hfit : Fits A o1 (o1.map (selfRow A)) := Fits.map _ (fun q => by simp [selfRow]) o1
      obtain ⟨hok, hused, hadd⟩ := ofP_add HA.out HI.out HAd.out hord hfit
      obtain ⟨hfine, hshaped⟩ := ofP_fine HA.out HI.out HAd.out (o2 := p :: o2) (by rw [hord]) hfit
      have hnext : ofP A (o1 ++ [p]) (o1.map (selfRow A) ++ [List.replicate (A.ptrs p.1).length p.2]) = ofP A (s.ord.take (k + 1)) ((s.ord.take (k + 1)).map (selfRow A)) := by
        rw [htk1]; simp [selfRow]
      rw [hused] at hok hadd
      rw [hnext] at hadd
      generalize ofP A o1 (o1.map (selfRow A)) = H at *
      generalize hHp : ofP A (s.ord.take (k + 1)) ((s.ord.take (k + 1)).map (selfRow A)) = H' at *
      have HHP := hid hHp
      clear hHp
      have HR1 := hid r1
      have HR2 := hid r2
      have HR3 := hid r3
      have HPr := hid hPHr
      have HOK := hid hok
      have HADD := hid hadd
      have HU := hid hused
      have HFi := hid hfine
      have Hhas := hid hz
      have HC1r := hid hc1r
      have HCBO := hid hcbo
      clear hov hcell r1 r2 r3 hPHr hok hadd hused hfine hshaped hnext hfit hord' hz htk htk1 hord hpk hk1 hc1r hcbo
      obtain ⟨z, y⟩ := p
      simp only [] at *
      go_wp2_with fail
      refine hptr.mono ?_
      rintro e w1 ⟨v27, rfl, n1, n2, n3⟩
      obtain ⟨x27, c27, rfl, _, _⟩ := n1.shape
      have c0w : w1.cell? ⟨cb, 0, none⟩ = some (.pointer (some ⟨hb, 0, none⟩)) := n2.cell c0r (fun f => f)
      generalize hm : (A.ptrs z).length = m at *
      obtain ⟨w2, hmk, mo, mg⟩ := make_zero w1 m (by omega)
      have HN1 := hid n2
      have HMO := hid mo
      have HMG := hid mg
      have HM := hid hm
      clear n1 n2 n3 mo mg hm
      go_wp2
      obtain ⟨wo, rfl⟩ : ∃ q : World, q = wr := ⟨_, rfl⟩
      go_loopw [32] (fun i wr2 => ∃ q : Nat, q ≤ m ∧ i = .int .i64 q ∧ FillRel w2 w1.heap.size m q y wr2) (fun i _ => m - (intOf i).toNat)
      case atStart => exact ⟨0, Nat.zero_le _, rfl, by simpa using HMO.out, Fr.refl _ _⟩
      case round =>
        obtain ⟨q, hq, rfl, f1, f2⟩ := hrel
        have hF2 : Grew wo w2 := HN1.out.trans HMG.out (fun _ _ f => f)
        have hnof : w1.heap.size ∉ fpr := fun hm => by
          have q1 := HR1.out.lt _ hm
          have q2 := HN1.out.size
          omega
        have hHw := (HR1.out.grew hF2).kept f2 (fun b hb' e => hnof (e ▸ hb'))
        by_cases hql : q < m
        · have husd := used_any hHw
          rw [HU.out] at husd
          obtain ⟨g3, cap3, he3, _, _, _, hcl3⟩ := f1.at (by simp; omega)
          have hlen3 : (List.replicate q y ++ List.replicate (m - q) 0).length = m := by simp; omega
          rw [hlen3] at he3
          cases he3
          obtain ⟨k1', k2⟩ := hcl3 q (by rw [hlen3]; exact hql)
          obtain ⟨old, k1⟩ : ∃ old, wr.cell? ⟨w1.heap.size, q, none⟩ = some (Kv old) := ⟨_, k1'⟩
          clear k1'
          have hst := (show Ow _ (.slice (some ⟨w1.heap.size, 0, none⟩) (List.replicate q y ++ List.replicate (m - q) 0).length m) _ by rw [hlen3]; exact f1).set q y
          have hset : (List.replicate q y ++ List.replicate (m - q) (0 : Int)).set q y = List.replicate (q + 1) y ++ List.replicate (m - (q + 1)) 0 := by
            rw [List.set_append_right _ _ (by simp), List.length_replicate, Nat.sub_self, show m - q = (m - (q + 1)) + 1 by omega, List.replicate_succ, List.set_cons_zero, List.replicate_succ']
            simp
          rw [hset] at hst
          have hlen4 : (List.replicate (q + 1) y ++ List.replicate (m - (q + 1)) (0 : Int)).length = m := by simp; omega
          rw [hlen4] at hst
          have hf3 := f2.setCell (p := ⟨w1.heap.size, q, none⟩) (fun _ => rfl) (Kv y)
          have HST := hid (And.intro hst hf3)
          clear hst hf3 hset hlen4 hcl3 hHw hnof hF2 f1 f2
          clear hlen3
          go_wp2_with fail
          refine husd.mono ?_
          rintro e wx ⟨rfl, rfl⟩
          go_wp2_with fail
          go_roundw
          case rel => exact ⟨q + 1, by omega, by go_num, HST.out⟩
          case measure => simp [intOf]; omega
        · have hqm : m = q := by omega
          subst hqm
          rw [Nat.sub_self, List.replicate_zero, List.append_nil] at f1
          have hPw := (HPr.out.grew hF2).kept f2 (fun b hb' e => by
            have q1 := HPr.out.lt b hb'
            have q2 := HN1.out.size
            omega)
          have hcw : wr.heap[cb]? = _ := f2.get (hF2.get HC1r.out (fun f => f)) (fun e => by
            have q1 := lt_of_get HC1r.out
            have q2 := HN1.out.size
            omega)
          have c0x : wr.cell? ⟨cb, 0, none⟩ = some (.pointer (some ⟨hb, 0, none⟩)) := by rw [cell_of_get hcw]; rfl
          have HHw := hid hHw
          have HPw := hid hPw
          have HF1 := hid f1
          have HF2x := hid (hF2.any.trans f2 (fun i hi e => (by have q2 := HN1.out.size; omega : False)) : Grew wo wr)
          clear hHw hPw f1 f2 hcw hnof hF2 hql c0w c0r hmk
          go_wp2
          refine wp_region_facts 16 Grew [(43, Ex (.pointer (some ⟨ob, 0, none⟩))), (44, Ex (.pointer (some ⟨cb, 0, none⟩))), (45, Ex (.pointer (some ⟨cb, 0, none⟩))), (46, Ex (.pointer (some ⟨cb, 0, none⟩))), (47, Ex (.pointer (some ⟨cb, 0, none⟩))), (48, Ex (.pointer (some ⟨hb, 0, none⟩))), (49, Ex (Kv z)), (50, Ex (Kv (A.tag z))), (51, Ex (.slice (some ⟨w1.heap.size, 0, none⟩) m m)), (52, Ex (.pointer (some ⟨cb, 0, none⟩))), (53, Ex (.pointer (some ⟨cb, 0, none⟩))), (54, Ex (.pointer (some ⟨cb, 0, none⟩))), (55, Ex (.pointer (some ⟨cb, 0, none⟩))), (56, Ex (.pointer (some ⟨hb, 0, none⟩))), (57, Ex (Kv z)), (58, FOw (A.nums z))] (by kernel_rfl) (by kernel_rfl) (by rfl) (by rfl)
            (fun a => Fr.refl _ a) (fun a b c h k => h.trans k (fun _ _ f => f)) (Fr.refl _ _).drew
            (Stays.all ⟨Ex.stays _, Ex.stays _, Ex.stays _, Ex.stays _, Ex.stays _, Ex.stays _, Ex.stays _, Ex.stays _, Ex.stays _, Ex.stays _, Ex.stays _, Ex.stays _, Ex.stays _, Ex.stays _, Ex.stays _, FOw.stays _, trivial⟩) ?_ ?_
          · go_light
            refine OpGoals.cons ?_ (OpGoals.cons ?_ (OpGoals.cons ?_ (OpGoals.cons ?_ (OpGoals.cons ?_ (OpGoals.cons ?_ (OpGoals.cons ?_ (OpGoals.cons ?_ (OpGoals.cons ?_ (OpGoals.cons ?_ (OpGoals.cons ?_ (OpGoals.cons ?_ (OpGoals.cons ?_ (OpGoals.cons ?_ (OpGoals.cons ?_ (OpGoals.cons ?_ OpGoals.none)))))))))))))))
            all_goals (intro a' w' hS hR; simp [Rd, Op.operands, Call.operands, Fk, Ex] at hR)
            all_goals (show Yields _ _ _ _ _)
            all_goals (have hc0 := hS.cell c0x (fun f => f))
            all_goals try (simp [Yields, execOp, Act.eval, hR, hc0, go_sem, Fk, Ex, Fr.refl]; done)
            · simp [Yields, Act.eval, hR, go_sem, Fk, Ex]
              refine (tag_any (HPw.out.grew hS) z).mono ?_
              rintro e w2 ⟨rfl, rfl⟩
              exact ⟨_, rfl, rfl, Fr.refl _ _⟩
            · simp [Yields, Act.eval, hR, go_sem, Fk, Ex]
              refine (nums_any (HPw.out.grew hS) z (by omega)).mono ?_
              rintro e w2 ⟨v, rfl, h1, h2, _⟩
              obtain ⟨x, c, rfl, _⟩ := h1.shape
              exact ⟨_, rfl, ⟨⟨x, c, rfl⟩, h1⟩, h2⟩
          · intro w6 hS
            rintro _ rfl _ rfl _ rfl _ rfl _ rfl _ rfl _ rfl _ rfl _ rfl _ rfl _ rfl _ rfl _ rfl _ rfl _ rfl v58 ⟨⟨xa, xc, rfl⟩, hon⟩
            refine Then.nil ?_
            have hal := alloc_any (HHw.out.grew hS) HFi.out (A.tag z) (HF1.out.kept hS (fun _ _ f => f)) hon
            have HGS := hid (HF2x.out.trans hS (fun _ _ f => f))
            clear hon hS
            go_wp2_with fail
            refine hal.mono ?_
            intro e w7 hpost
            unfold AllocPost at hpost
            rw [if_pos HOK.out, HADD.out] at hpost
            obtain ⟨rfl, fp', p1, p2, p3⟩ := hpost
            have hrel : LayRel w ob H' fpo w7 := by
              have g1 : Fr (· ∈ fpo) wo w6 := Grew.any HGS.out
              have g2 := HR2.out.trans g1 (fun _ _ f => f)
              have g3 := HGS.out.size
              have g4 := HR2.out.size
              exact ⟨fp', p1, g2.trans p2 (fun i hi hm => (HR3.out i hm).resolve_right (by omega)), fun b hb' => by
                rcases p3 b hb' with e | e
                · exact HR3.out b e
                · exact .inr (by omega)⟩
            have HREL := hid hrel
            clear hrel p1 p2 p3
            go_wp2
            go_roundw
            case rel => exact ⟨k + 1, by omega, by go_num, by rw [HHP.out]; exact HREL.out⟩
            case measure => simp [intOf]; omega
    · have hke : k = s.ord.length := by omega
      subst hke
      rw [List.take_length] at r1
      clear hlt hk
      have hcbo : cb ∉ fpo := fun hm => HD2.out cb hm (by rw [H5.out]; simp)
      have hc1r := r2.get HC1.out hcbo
      have c3r : wr.cell? ⟨cb, 3, none⟩ = some (.slice oa s.ord.length oc) := by rw [cell_of_get hc1r]; rfl
      have hstart : LayRel w ob (ofP A s.ord ((s.ord.take 0).map (s.row A d) ++ (s.ord.drop 0).map (selfRow A))) fpo wr := ⟨fpr, by simpa using r1, r2, r3⟩
      have HS2 := hid hstart
      have HCBO := hid hcbo
      clear hstart r1 r2 r3 hc1r hcbo c3
      go_wp2
      obtain ⟨wo, rfl⟩ : ∃ q : World, q = wr := ⟨_, rfl⟩
      go_loopw [66] (fun i wr => ∃ k : Nat, k ≤ s.ord.length ∧ i = .int .i64 k ∧ LayRel w ob (ofP A s.ord ((s.ord.take k).map (s.row A d) ++ (s.ord.drop k).map (selfRow A))) fpo wr) (fun i _ => s.ord.length - (intOf i).toNat)
      case atStart => exact ⟨0, Nat.zero_le _, rfl, HS2.out⟩
      case round =>
        obtain ⟨k, hk, rfl, fpr, r1, r2, r3⟩ := hrel
        by_cases hlt : k < s.ord.length
        · have hov := HOV.out.kept r2 (fun g hg hm => HD2.out g hm (by rw [H5.out]; simp only [List.mem_cons, Option.mem_toList]; exact .inr (.inr (by simpa [Value.ownBlock] using hg))))
          have hc1r := r2.get HC1.out HCBO.out
          have c0r : wr.cell? ⟨cb, 0, none⟩ = some (.pointer (some ⟨hb, 0, none⟩)) := by rw [cell_of_get hc1r]; rfl
          obtain ⟨g0, cap, he, _, _, _, hcell⟩ := hov.at (by simp; omega)
          rw [List.length_map] at he
          cases he
          have hc0 := (hcell k (by simpa using hlt)).1
          rw [List.getElem_map] at hc0
          obtain ⟨o1, p, o2, hord, hk1, hpk⟩ : ∃ o1 p o2, s.ord = o1 ++ p :: o2 ∧ o1.length = k ∧ s.ord[k] = p :=
            ⟨s.ord.take k, s.ord[k], s.ord.drop (k + 1), by rw [← List.drop_eq_getElem_cons hlt, List.take_append_drop], by rw [List.length_take]; omega, rfl⟩
          rw [hpk] at hc0
          have htk : s.ord.take k = o1 := by rw [hord, ← hk1]; simp
          have htk1 : s.ord.take (k + 1) = o1 ++ [p] := by rw [List.take_succ_eq_append_getElem hlt, htk, hpk]
          have hdk : s.ord.drop k = p :: o2 := by rw [hord, ← hk1]; simp
          have hdk1 : s.ord.drop (k + 1) = o2 := by rw [hord, ← hk1, List.drop_append]; simp
          have e0 : (s.ord.take k).map (s.row A d) ++ (s.ord.drop k).map (selfRow A) = layP A d s o1 p o2 0 := by rw [htk, hdk]; simp [layP]
          have e1 : (s.ord.take (k + 1)).map (s.row A d) ++ (s.ord.drop (k + 1)).map (selfRow A) = layP A d s o1 p o2 (s.row A d p).length := by
            rw [htk1, hdk1]
            have : (selfRow A p).drop (s.row A d p).length = [] := List.drop_eq_nil_of_le (by rw [row_len, self_len]; exact Nat.le_refl _)
            simp [layP, this]
          rw [e0] at r1
          have hPHr := HPH.out.kept r2 (fun b hb' hm => HD1.out b hm hb')
          have hCRr := HCR.out.kept r2 (fun b hb' hm => HD2.out b hm hb')
          have hpl := HA.out.shaped.ptrs_le p.1
          have hptr := ptrs_any hPHr p.1 (by omega)
          have hlk : lookI p.1 s.ord = some p.2 := by
            rw [hord]
            refine lookI_split o1 p o2 (fun hm => ?_)
            have hn := HI.out.nodup
            rw [hord, List.map_append, List.map_cons] at hn
            exact (List.nodup_append.1 hn).2.2 p.1 hm p.1 (by simp) rfl
          have hpm : p ∈ s.ord := by rw [hord]; simp
          have hall := fun (w' : World) (hg : Grew wr w') (lv : Value) (hlv : Ow w' lv (A.ptrs p.1)) => all_old HA.out hd hlv (by omega) (hPHr.grew hg) (hCRr.kept hg (fun _ _ f => f)) (HCL.out p hpm)
          have hset := fun (i : Nat) (hin : i < (s.row A d p).length) => layP_set HI.out HAd.out HCL.out hord hin
          have hshp := fun (i : Nat) => (ofP_fine HA.out HI.out HAd.out (o1 := s.ord) (o2 := []) (by simp) (layP_fits (A := A) (d := d) (s := s) (i := i) hord)).2
          have hlks := fun (w' : World) (hg : Fr (· ∈ fpr) wr w') => (hCRr.kept hg (fun b hb' hm => by
            rcases r3 b hm with q | q
            · exact HD2.out b q hb'
            · have := HLT2.out b hb'; omega)).look1 p.1
          rw [hlk] at hlks
          simp only [Option.getD_some] at hlks
          have hrow : (A.ptrs p.1).map (fun q => (lookI (A.short d q) s.ord).getD 0) = s.row A d p := rfl
          have HR1 := hid r1
          have HR2 := hid r2
          have HR3 := hid r3
          have HALL := hid hall
          have HSET := hid hset
          have HSH := hid hshp
          have HLK := hid hlks
          have HE1 := hid e1
          have HROW := hid hrow
          clear hov hcell r1 r2 r3 hPHr hCRr hall hset hshp hlks hlk e0 e1 htk htk1 hdk hdk1 hord hpk hk1 hc1r hpm hrow
          obtain ⟨z, y⟩ := p
          simp only [] at hc0 hptr hpl
          go_wp2_with fail
          refine hptr.mono ?_
          rintro e w1 ⟨v27, rfl, n1, n2, n3⟩
          have hal := HALL.out w1 n2 v27 n1
          obtain ⟨x27, c27, rfl, _, _⟩ := n1.shape
          have HN2 := hid n2
          clear n1 n2 n3
          go_wp2_with fail
          refine hal.mono ?_
          rintro e w2 ⟨vt, rfl, t1, t2, t3⟩
          rw [HROW.out] at t1
          obtain ⟨xt, ct, rfl, hct, _⟩ := t1.shape
          have hlenr : (s.row A d (z, y)).length ≤ 60 := by rw [row_len]; exact hpl
          have HT1 := hid t1
          have HG2 : Hid (Grew wr w2) := hid (HN2.out.trans t2 (fun _ _ f => f))
          have ht3 : ∀ g, (Value.slice xt (s.row A d (z, y)).length ct).ownBlock = some g → g ∉ fpr := fun g hg hm => by
            have q1 := t3 g hg
            have q2 := HR1.out.lt g hm
            have q3 := HN2.out.size
            omega
          have HT3 := hid ht3
          clear t1 t2 t3 ht3 hct
          generalize hrr : s.row A d (z, y) = R at *
          go_wp2
          obtain ⟨wo, rfl⟩ : ∃ q : World, q = wr := ⟨_, rfl⟩
          go_loopw [80] (fun i wr2 => ∃ q : Nat, q ≤ R.length ∧ i = .int .i64 q ∧ PH wr2 ob (ofP A s.ord (layP A d s o1 (z, y) o2 q)) fpr ∧ Fr (· ∈ fpr) w2 wr2) (fun i _ => R.length - (intOf i).toNat)
          case atStart => exact ⟨0, Nat.zero_le _, rfl, HR1.out.grew HG2.out, Fr.refl _ _⟩
          case round =>
            obtain ⟨q, hq, rfl, f1, f2⟩ := hrel
            by_cases hql : q < R.length
            · have ht := HT1.out.kept f2 (fun g hg hm => HT3.out g hg hm)
              obtain ⟨g3, cap3, he3, _, _, _, hcl3⟩ := ht.at (by omega)
              cases he3
              have k1 := (hcl3 q hql).1
              obtain ⟨hok, hse⟩ := HSET.out q hql
              have hst := set_any f1 y q R[q] (HSH.out q)
              have hfw : Fr (· ∈ fpr) wo wr := (Grew.any HG2.out).trans f2 (fun i hi hm => hm)
              obtain ⟨nb, d2, hlook⟩ := HLK.out wr hfw
              have HF2 := hid f2
              have hpost : ∀ e w', SetPost wr ob (ofP A s.ord (layP A d s o1 (z, y) o2 q)) fpr y q R[q] e w' → ∃ b, e = .returned (.bool b) ∧ (PH w' ob (ofP A s.ord (layP A d s o1 (z, y) o2 (q + 1))) fpr ∧ Fr (· ∈ fpr) w2 w') := by
                intro e w' hp
                unfold SetPost at hp
                rw [if_pos hok, hse] at hp
                exact ⟨true, hp.1, hp.2.1, HF2.out.trans hp.2.2 (fun i hi hm => hm)⟩
              have HPO := hid hpost
              generalize R[q] = to at *
              clear ht hcl3 hok hse hfw f1 f2 hpost
              go_wp2_with fail
              refine hst.mono ?_
              intro e w' hp
              obtain ⟨b, rfl, hn⟩ := HPO.out e w' hp
              have HN := hid hn
              clear hn hp
              go_wp2_with fail
              go_roundw
              case rel => exact ⟨q + 1, by omega, by go_num, HN.out⟩
              case measure => simp [intOf]; omega
            · have hqm : q = R.length := by omega
              subst hqm
              have hfin : LayRel w ob (ofP A s.ord ((s.ord.take (k + 1)).map (s.row A d) ++ (s.ord.drop (k + 1)).map (selfRow A))) fpo wr := by
                have q1 := HG2.out.size
                have q2 := HR2.out.size
                refine ⟨fpr, by rw [HE1.out]; exact f1, ?_, HR3.out⟩
                exact (HR2.out.trans (Grew.any HG2.out : Fr (· ∈ fpo) wo w2) (fun i hi hm => hm)).trans f2 (fun i hi hm => (HR3.out i hm).resolve_right (by omega))
              have HFIN := hid hfin
              clear hfin f1 f2 hql
              go_wp2
              go_roundw
              case rel => exact ⟨k + 1, by omega, by go_num, HFIN.out⟩
              case measure => simp [intOf]; omega
        · have hke : k = s.ord.length := by omega
          subst hke
          rw [List.take_length, List.drop_length, List.map_nil, List.append_nil] at r1
          have HR := hid (show LayRel w ob (A.gcd d s) fpo wr from ⟨fpr, r1, r2, r3⟩)
          clear r1 r2 r3 hlt hk
          go_wp2
          go_end0
          exact ⟨rfl, HR.out⟩
end Go.Proofs.Ytjhdnbediipibaa
