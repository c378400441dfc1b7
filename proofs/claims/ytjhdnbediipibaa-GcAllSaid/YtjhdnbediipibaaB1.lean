import Derived.Test.YtjhdnbediipibaaP1
/-! gc: all. -/
namespace Go.Proofs.Ytjhdnbediipibaa
open Go.RowKit

/-- make([]int, 0, n) -/
theorem make_cap (w : World) (n : Nat) (hn : n ≤ 17592186044416) :
    ∃ w', (Instr.makeSlice 22 (.int .i64 0) (.int .i64 (n : Int))).run Try.prog w = .ok (.slice (some ⟨w.heap.size, 0, none⟩) 0 n) w' ∧ Ow w' (.slice (some ⟨w.heap.size, 0, none⟩) 0 n) [] ∧ Grew w w' := by
  obtain ⟨i, hi, h1, h2, h3⟩ := info_parts (P := Try.prog) (e := 3) (z := .int .i64 0) (size := 1) (bytes := 8) (by kernel_rfl)
  obtain ⟨w', hr, ho, hg⟩ := run_make_own (P := Try.prog) w 0 22 3 i (.int .i64 0) 1 Try.underlying22 hi h1 h2 .i64 .i64 n (by rw [h3]; omega) (by unfold maxLen; omega) (Nat.zero_le _)
  exact ⟨w', hr, ho, (Fr.refl _ w).grown hg (fun _ e => by cases e)⟩

def AllPost (w : World) (A : AH) (cb hb d : Nat) (s : CS) (l : List Int) (fp2 : List Nat) (e : Ending) (w' : World) : Prop :=
  ∃ v fp', e = .returned v ∧ Ow w' v (s.all A d l).1 ∧ CR w' cb hb d (s.all A d l).2 fp' ∧ Fr (· ∈ fp2) w w' ∧ (∀ b ∈ fp', b ∈ fp2 ∨ w.heap.size ≤ b) ∧
    (∀ g, v.ownBlock = some g → w.heap.size ≤ g ∧ g ∉ fp')

/-- a round of all -/
def AllRel (w : World) (A : AH) (cb hb d : Nat) (s : CS) (l : List Int) (fp2 : List Nat) (i : Nat) (v : Value) (wr : World) : Prop :=
  ∃ fpr, Ow wr v (s.all A d (l.take i)).1 ∧ CR wr cb hb d (s.all A d (l.take i)).2 fpr ∧ Fr (· ∈ fp2) w wr ∧ (∀ b ∈ fpr, b ∈ fp2 ∨ w.heap.size ≤ b) ∧
    (∀ g, v.ownBlock = some g → w.heap.size ≤ g ∧ g ∉ fpr)

set_option maxHeartbeats 1000000 in
set_option maxRecDepth 100000 in
theorem all_any {hb cb : Nat} {A : AH} {fp fp2 : List Nat} {d : Nat} {s : CS} {w : World} (hA : A.WF) (hi : CS.Inv A s) (hd : d ≤ 1000) {lv : Value} {l : List Int} (hlv : Ow w lv l) (hll : l.length ≤ 1000000) (hl : ∀ k ∈ l, A.has k)
    (h : PH w hb A fp) (hC : CR w cb hb d s fp2) (hdis : ∀ b ∈ fp, b ∉ fp2) (hlf : ∀ g, lv.ownBlock = some g → g ∉ fp2) :
    Calls Try.prog 50 #[.pointer (some ⟨cb, 0, none⟩), lv] w (AllPost w A cb hb d s l fp2) := by
  obtain ⟨la, lc, rfl, hlc, hlm⟩ := hlv.shape
  obtain ⟨w1, hmk, ho1, hg1⟩ := make_cap w l.length (by omega)
  have hstart : AllRel w A cb hb d s l fp2 0 (.slice (some ⟨w.heap.size, 0, none⟩) 0 l.length) w1 :=
    ⟨fp2, ho1, hC.kept hg1 (fun _ _ f => f), Grew.any hg1, fun b hb' => .inl hb', fun g hg => by
      simp [Value.ownBlock] at hg
      subst hg
      exact ⟨Nat.le_refl _, fun hm => by have := hC.lt _ hm; omega⟩⟩
  have HS := hid hstart
  have HLV := hid hlv
  have HPH := hid h
  have HI := hid hi
  have HL := hid hl
  have HD := hid hdis
  have HF := hid hlf
  have HLT := hid h.lt
  have HA := hid hA
  have hlen := hA.len
  clear hstart hlv h hi hl hdis hlf hC ho1 hg1 hlm hA
  go_enter Try.func50, Try.ntmps50
  go_wp2
  go_loopw [5, 13] (fun v i wr => ∃ k : Nat, k ≤ l.length ∧ i = .int .i64 k ∧ AllRel w A cb hb d s l fp2 k v wr) (fun _ i _ => l.length - (intOf i).toNat)
  case atStart => exact ⟨0, Nat.zero_le _, rfl, HS.out⟩
  case round =>
    obtain ⟨k, hk, rfl, hr⟩ := hrel
    by_cases hlt : k < l.length
    · obtain ⟨fpr, r1, r2, r3, r4, r5⟩ := hr
      have hlv' := HLV.out.kept r3 (fun g hg hm => HF.out g hg hm)
      obtain ⟨g, cap, he, _, _, _, hcell⟩ := hlv'.at (by omega)
      cases he
      have hc0 := (hcell k hlt).1
      have hPHr := HPH.out.kept r3 (fun b hb' => HD.out b hb')
      have hIr := HI.out.all HA.out d (l.take k) (fun q hq => HL.out q (List.mem_of_mem_take hq))
      have hle := hIr.le HA.out
      have hus := HA.out.uw
      have hws := HA.out.w0
      have hcp := copied_any HA.out.shaped (by omega) hd l[k] hPHr r2 (fun b hb' hm => (r4 b hm).elim (HD.out b hb') (fun q => by have := HLT.out b hb'; omega)) (by omega) (by omega) (by omega)
      have hsn : s.all A d (l.take (k + 1)) = CS.stepAll A d (s.all A d (l.take k)) l[k] := by
        rw [List.take_succ_eq_append_getElem hlt, CS.all_snoc]
      have hlen2 := CS.all_len A d s (l.take k)
      generalize s.all A d (l.take k) = q at *
      generalize l[k] = z at *
      obtain ⟨out, sk⟩ := q
      have HSN := hid hsn
      obtain ⟨va, vc, rfl, hvc⟩ := r1.shape
      have HR1 := hid r1
      have HR3 := hid r3
      have HR4 := hid r4
      have HR5 := hid r5
      have HL2 := hid hlen2
      clear hcell hPHr hIr hle hus hws hsn r1 r2 r3 r4 r5 hlv' hlen2 hvc
      go_wp2_with fail
      refine hcp.mono ?_
      rintro e wx ⟨rfl, fpx, x1, x2, x3⟩
      have hrow := HR1.out.kept x2 (fun g hg => (HR5.out g hg).2)
      have hrow2 := hrow.kept (Grew.alloc wx (.cells #[.int .i64 (sk.copied A d z).1] 3)) (fun _ _ f => f)
      obtain ⟨v', W4, happ, ho4, hf4, hfr4⟩ := app_ow hrow2 (Ow.one wx (sk.copied A d z).1) (by have := HL2.out; simp at this ⊢; omega) 22
      have hnew : AllRel w A cb hb d s l fp2 (k + 1) v' W4 := by
        have z1 := HR3.out.size
        have z2 := x2.size
        refine ⟨fpx, by rw [HSN.out]; exact ho4, ?_, ?_, fun b hb' => ?_, fun g hg => ?_⟩
        · rw [HSN.out]
          refine (x1.kept (Grew.alloc wx (.cells #[.int .i64 (sk.copied A d z).1] 3)) (fun _ _ f => f)).kept hf4 (fun b hb' e => ?_)
          have q1 := HR5.out b e
          have q2 := HR1.out.lt e
          rcases x3 b hb' with q | q
          · exact q1.2 q
          · omega
        · have f1 := HR3.out.trans x2 (fun i hi hm => (HR4.out i hm).resolve_right (by omega))
          have f2 := f1.trans (Grew.alloc wx (.cells #[.int .i64 (sk.copied A d z).1] 3)) (fun _ _ f => f.elim)
          exact f2.trans hf4 (fun i hi e => by have := (HR5.out i e).1; omega)
        · rcases x3 b hb' with q | q
          · exact HR4.out b q
          · exact .inr (by omega)
        · rcases hfr4 g hg with e | e
          · have q1 := HR5.out g e
            have q2 := HR1.out.lt e
            exact ⟨q1.1, fun hm => (x3 g hm).elim q1.2 (fun q => by omega)⟩
          · simp at e
            exact ⟨by omega, fun hm => by have := x1.lt g hm; omega⟩
      have HN := hid hnew
      have HAPP := hid happ
      clear hrow hrow2 happ ho4 hf4 hfr4 hnew x1 x2 x3
      go_wp2_with (at_builtin; refine wpList_app rfl rfl rfl rfl HAPP.out ?_)
      go_roundw
      case rel => exact ⟨k + 1, by omega, by go_num, HN.out⟩
      case measure => simp [intOf]; omega
    · have hke : k = l.length := by omega
      subst hke
      have HR := hid hr
      clear hr hlt
      go_wp2
      go_ret
      obtain ⟨fpr, h1, h2, h3, h4, h5⟩ := HR.out
      rw [List.take_length] at h1 h2
      exact ⟨_, fpr, rfl, h1, h2, h3, h4, h5⟩

/-- all are there already -/
def OldPost (w : World) (s : CS) (A : AH) (d : Nat) (l : List Int) (e : Ending) (w' : World) : Prop :=
  ∃ v, e = .returned v ∧ Ow w' v (l.map fun q => (lookI (A.short d q) s.ord).getD 0) ∧ Grew w w' ∧ ∀ g, v.ownBlock = some g → w.heap.size ≤ g
def OldRel (w : World) (s : CS) (A : AH) (d : Nat) (l : List Int) (i : Nat) (v : Value) (wr : World) : Prop :=
  Ow wr v ((l.take i).map fun q => (lookI (A.short d q) s.ord).getD 0) ∧ Grew w wr ∧ ∀ g, v.ownBlock = some g → w.heap.size ≤ g

set_option maxHeartbeats 1000000 in
set_option maxRecDepth 100000 in
theorem all_old {hb cb : Nat} {A : AH} {fp fp2 : List Nat} {d : Nat} {s : CS} {w : World} (hA : A.WF) (hd : d ≤ 1000) {lv : Value} {l : List Int} (hlv : Ow w lv l) (hll : l.length ≤ 1000000)
    (h : PH w hb A fp) (hC : CR w cb hb d s fp2) (hcl : ∀ q ∈ l, lookI (A.short d q) s.ord ≠ none) :
    Calls Try.prog 50 #[.pointer (some ⟨cb, 0, none⟩), lv] w (OldPost w s A d l) := by
  obtain ⟨la, lc, rfl, hlc, hlm⟩ := hlv.shape
  obtain ⟨w1, hmk, ho1, hg1⟩ := make_cap w l.length (by omega)
  have hstart : OldRel w s A d l 0 (.slice (some ⟨w.heap.size, 0, none⟩) 0 l.length) w1 :=
    ⟨ho1, hg1, fun g hg => by simp [Value.ownBlock] at hg; omega⟩
  have HS := hid hstart
  have HLV := hid hlv
  have HPH := hid h
  have HC := hid hC
  have HCL := hid hcl
  have HA := hid hA
  have hlen := hA.len
  clear hstart hlv h hC ho1 hg1 hlm hA hcl
  go_enter Try.func50, Try.ntmps50
  go_wp2
  go_loopw [5, 13] (fun v i wr => ∃ k : Nat, k ≤ l.length ∧ i = .int .i64 k ∧ OldRel w s A d l k v wr) (fun _ i _ => l.length - (intOf i).toNat)
  case atStart => exact ⟨0, Nat.zero_le _, rfl, HS.out⟩
  case round =>
    obtain ⟨k, hk, rfl, hr⟩ := hrel
    by_cases hlt : k < l.length
    · obtain ⟨r1, r2, r3⟩ := hr
      have hlv' := HLV.out.kept r2 (fun _ _ f => f)
      obtain ⟨g, cap, he, _, _, _, hcell⟩ := hlv'.at (by omega)
      cases he
      have hc0 := (hcell k hlt).1
      obtain ⟨n, hn⟩ : ∃ n, lookI (A.short d l[k]) s.ord = some n := Option.ne_none_iff_exists'.1 (HCL.out l[k] (List.getElem_mem hlt))
      have hsn : (l.take (k + 1)).map (fun q => (lookI (A.short d q) s.ord).getD 0) = (l.take k).map (fun q => (lookI (A.short d q) s.ord).getD 0) ++ [n] := by
        rw [List.take_succ_eq_append_getElem hlt, List.map_append]; simp only [List.map_cons, List.map_nil, hn, Option.getD_some]
      have HK := hid (fun (R : Ending → World → Prop) (hp : ∀ w', Grew wr w' → R (.returned (Kv n)) w') => copied_is HA.out.shaped (by omega) hd l[k] (HPH.out.grew r2) (HC.out.kept r2 (fun _ _ f => f)) hn hp)
      have hlen2 : ((l.take k).map (fun q => (lookI (A.short d q) s.ord).getD 0)).length ≤ l.length := by simp; omega
      generalize (l.take k).map (fun q => (lookI (A.short d q) s.ord).getD 0) = out at *
      generalize l[k] = z at *
      have HSN := hid hsn
      obtain ⟨va, vc, rfl, hvc⟩ := r1.shape
      have HR1 := hid r1
      have HR2 := hid r2
      have HR3 := hid r3
      have HL2 := hid hlen2
      clear hcell hsn r1 r2 r3 hlv' hlen2 hvc hn
      go_wp2_with fail
      refine (HK.out (fun e w' => e = .returned (Kv n) ∧ Grew wr w') (fun w' hg => ⟨rfl, hg⟩)).mono ?_
      rintro e wx ⟨rfl, x2⟩
      have hrow := HR1.out.kept x2 (fun _ _ f => f)
      have hrow2 := hrow.kept (Grew.alloc wx (.cells #[.int .i64 n] 3)) (fun _ _ f => f)
      obtain ⟨v', W4, happ, ho4, hf4, hfr4⟩ := app_ow hrow2 (Ow.one wx n) (by have := HL2.out; simp at this ⊢; omega) 22
      have hnew : OldRel w s A d l (k + 1) v' W4 := by
        have z1 := HR2.out.size
        have z2 := x2.size
        refine ⟨by rw [HSN.out]; exact ho4, ?_, fun g hg => ?_⟩
        · have f1 := HR2.out.trans x2 (fun _ _ f => f)
          have f2 := f1.trans (Grew.alloc wx (.cells #[.int .i64 n] 3)) (fun _ _ f => f)
          exact f2.trans hf4 (fun i hi e => by have := HR3.out i e; omega)
        · rcases hfr4 g hg with e | e
          · exact HR3.out g e
          · simp at e; omega
      have HN := hid hnew
      have HAPP := hid happ
      clear hrow hrow2 happ ho4 hf4 hfr4 hnew x2
      go_wp2_with (at_builtin; refine wpList_app rfl rfl rfl rfl HAPP.out ?_)
      go_roundw
      case rel => exact ⟨k + 1, by omega, by go_num, HN.out⟩
      case measure => simp [intOf]; omega
    · have hke : k = l.length := by omega
      subst hke
      have HR := hid hr
      clear hr hlt
      go_wp2
      go_ret
      obtain ⟨h1, h2, h3⟩ := HR.out
      rw [List.take_length] at h1
      exact ⟨_, rfl, h1, h2, h3⟩
end Go.Proofs.Ytjhdnbediipibaa
