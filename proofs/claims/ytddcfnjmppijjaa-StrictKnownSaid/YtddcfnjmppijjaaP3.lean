import Derived.Test.YtddcfnjmppijjaaP1
import Derived.Test.YtddcfnjmppijjaaA9
import Derived.Test.YtddcfnjmppijjaaA2
/-! core.free: the names that are free. -/
namespace Go.Proofs.Ytddcfnjmppijjaa
open Go.RowKit Go.MapKept

theorem MpI.congr {w : World} {b : Nat} {f f' : Str → Int} (h : MpI w b f) (e : ∀ s, f s = f' s) : MpI w b f' := by
  obtain ⟨g, h1, h2⟩ := h
  exact ⟨g, h1, fun s => by rw [h2, e]⟩
theorem MpS.congr {w : World} {b : Nat} {S T : Str → Prop} (h : MpS w b S) (e : ∀ s, S s ↔ T s) : MpS w b T := by
  obtain ⟨g, h1, h2, h3⟩ := h
  exact ⟨g, h1, h2, fun s => by rw [← e, h3]⟩
theorem MpI.lt {w : World} {b : Nat} {f : Str → Int} (h : MpI w b f) : b < w.heap.size := by
  obtain ⟨g, h1, -⟩ := h
  exact h1.lt
theorem MpS.lt {w : World} {b : Nat} {f : Str → Prop} (h : MpS w b f) : b < w.heap.size := by
  obtain ⟨g, h1, -⟩ := h
  exact h1.lt

/-- what free leaves -/
def FrPost (w : World) (bb ob : Nat) (f : Str → Int) (S : Str → Prop) (x : X) (e : Ending) (w' : World) : Prop :=
  e = .returned (.tuple #[]) ∧ Fr (fun c => c = bb ∨ c = ob) w w' ∧ MpI w' bb f ∧ MpS w' ob (fun s => S s ∨ (s ∈ x.fv ∧ f s = 0))

/-- free, of a term of these parts -/
def FreeAt (w : World) (D : Nat → Prop) (v : Value) (l : List X) : Prop :=
  (∀ x ∈ l, Smn 900 x) → l.length ≤ 900 → ∀ w', Fr D w w' → ∀ (k : Int) (t : Str) (vn : Value) (ns : List Str), Nm w D vn ns → ns.length ≤ 900 → ∀ (bb ob : Nat) (f : Str → Int) (S : Str → Prop), D bb → D ob → bb ≠ ob →
    MpI w' bb f → MpS w' ob S → (∀ s, 0 ≤ f s ∧ f s + 1000 * (1 + sizes l) ≤ 1000000000000) → Calls Try.prog 61 #[.agg #[Kv k, St t, vn, v], .map (some bb), .map (some ob)] w' (FrPost w' bb ob f S (.mk k t ns l))

theorem free_step {w : World} {D : Nat → Prop} {g p : Nat} {x : X} {an : Option Addr} {cn : Nat} {aa : Option Addr} {ca : Nat} (he : El w D g p x an cn aa ca) (h : FreeAt w D (.slice aa x.parts.length ca) x.parts) (hx : Smn 900 x) (w' : World) (hg : Fr D w w')
    (bb ob : Nat) (f : Str → Int) (S : Str → Prop) (h1 : D bb) (h2 : D ob) (h3 : bb ≠ ob) (h4 : MpI w' bb f) (h5 : MpS w' ob S) (h6 : ∀ s, 0 ≤ f s ∧ f s + 1000 * x.size ≤ 1000000000000) :
    Calls Try.prog 61 #[.agg #[Kv x.kind, St x.text, .slice an x.names.length cn, .slice aa x.parts.length ca], .map (some bb), .map (some ob)] w' (FrPost w' bb ob f S x) := by
  cases hx with
  | mk k t ns a ht hn ha hs => exact h hs ha w' hg k t _ ns he.nm hn bb ob f S h1 h2 h3 h4 h5 (fun s => by have := h6 s; simp only [X.size] at this; simp only [X.parts]; omega)

theorem mem_fv (k : Int) (t : Str) (ns : List Str) (l : List X) (s : Str) : s ∈ (X.mk k t ns l).fv ↔ (k = 5 ∧ s = t) ∨ (s ∈ fvs l ∧ s ∉ ns) := by
  by_cases hk : k = 5
  · simp [X.fv, hk]
  · simp [X.fv, hk]

set_option maxHeartbeats 8000000 in
set_option maxRecDepth 100000 in
theorem free_core {w : World} {D : Nat → Prop} {av : Option Addr} {l : List X} {cap : Nat}
    (H : l ≠ [] → ∃ g o, av = some ⟨g, o, none⟩ ∧ ¬ D g ∧ ∀ i x, l[i]? = some x → ∃ an cn aa ca, El w D g (o + i * 4) x an cn aa ca ∧ FreeAt w D (.slice aa x.parts.length ca) x.parts) : FreeAt w D (.slice av l.length cap) l := by
  intro hs hl w' hw k t vn ns hns hnl bb ob f S hbb hob hne hI hS hf
  obtain ⟨an, cn, rfl, -⟩ := hns.shape
  have hlb := hI.lt
  have hlo := hS.lt
  obtain ⟨Wb, hWb⟩ : ∃ q : World, q = w'.alloc (.cells #[Kv k, St t, .slice an ns.length cn, .slice av l.length cap] 28) := ⟨_, rfl⟩
  have hgb : Grew w' Wb := by rw [hWb]; exact (Fr.refl _ _).alloc _
  have hbx : Wb.heap[w'.heap.size]? = some (.cells #[Kv k, St t, .slice an ns.length cn, .slice av l.length cap] 28 (0, 0)) := by rw [hWb]; exact heap_alloc_new _ _
  have hIb := hI.kept hgb (fun e => e)
  have hSb := hS.kept hgb (fun e => e)
  -- what is there behind the first test
  have hfirst : ∃ (S1 : Str → Prop), (∀ s, S1 s ↔ (S s ∨ (k = 5 ∧ s = t ∧ f s = 0))) := ⟨_, fun s => Iff.rfl⟩
  obtain ⟨S1, hS1⟩ := hfirst
  have HH := hid H
  have HW := hid hw
  have HGB := hid hgb
  have HBX := hid hbx
  have HNS := hid hns
  have HS := hid hs
  have HF := hid hf
  have HD := hid (And.intro hbb hob)
  have HS1 := hid hS1
  have HIb := hid hIb
  have HSb := hid hSb
  clear H hw hgb hbx hns hs hf hbb hob hS1 hIb hSb hI hS
  have HWR := hid (show ∀ wr, Fr (fun c => c = bb ∨ c = ob) Wb wr → Fr D w wr from fun wr h => (HW.out.trans HGB.out (fun _ _ e => e.elim)).trans h (fun c _ e => by rcases e with e | e <;> subst e <;> first | exact HD.out.1 | exact HD.out.2))
  by_cases hk5 : k = 5
  · subst hk5
    have hlk := HIb.out.look t
    by_cases hft : f t = 0
    · obtain ⟨w1, hput, hS', hfr⟩ := HSb.out.put t
      rw [hft] at hlk
      rw [hWb] at hlk hput
      have HK1 := hid (hfr.mono (G := fun c => c = bb ∨ c = ob) (fun _ _ e => .inr e))
      have HI1 := hid (HIb.out.kept hfr hne)
      have HS1' := hid (hS'.congr (T := S1) (fun s => by rw [HS1.out]; constructor <;> intro h <;> rcases h with h | h <;> first | exact .inl h | (exact .inr ⟨rfl, h, by rw [h]; exact hft⟩) | exact .inr h.2.1))
      have b2 : w1.cell? ⟨w'.heap.size, 2, none⟩ = some (.slice an ns.length cn) := hfr.cell (cell_of_get HBX.out 2) (by simp; omega)
      clear hS' hfr
      go_enter Try.func61, Try.ntmps61
      go_wp2
      clear hput hlk
      go_loopw [28] (fun i wr => ∃ m : Nat, m ≤ ns.length ∧ i = .int .i64 m ∧ Fr (fun c => c = bb ∨ c = ob) Wb wr ∧ MpI wr bb (fun s => f s + ((ns.take m).count s : Nat)) ∧ MpS wr ob S1) (fun i _ => ns.length - (intOf i).toNat)
      case atStart => exact ⟨0, Nat.zero_le _, rfl, HK1.out, HI1.out.congr (fun s => by simp), HS1'.out⟩
      case round =>
        obtain ⟨m, hm, rfl, hgr, hI, hS⟩ := hrel
        have g' := hgr
        by_cases hlt : m < ns.length
        · obtain ⟨x, hx⟩ := at_of_lt hlt
          obtain ⟨gn, on, cpn, en, -, -, hDn, hcn⟩ := HNS.out.row (fun e => by rw [e] at hlt; simp at hlt)
          simp only [Value.slice.injEq] at en
          obtain ⟨rfl, -, rfl⟩ := en
          have c0 := (HWR.out wr hgr).cell (hcn m x hx) hDn
          have hlk := hI.look x
          have hb := HF.out x
          have HCT := hid (count_take ns m x hx)
          have hle : (ns.take m).count x + 1 ≤ ns.count x := by
            have h1 := count_take ns m x hx x
            have h2 : (ns.take (m + 1)).count x ≤ ns.count x := (List.take_sublist _ _).count_le x
            simp at h1; omega
          have hle2 : ns.count x ≤ 900 := Nat.le_trans List.count_le_length hnl
          obtain ⟨z, hz⟩ : ∃ z : Int, z = f x + ((ns.take m).count x : Nat) := ⟨_, rfl⟩
          have hz0 : 0 ≤ z ∧ z ≤ 1000000001000 := by omega
          have hz1 : 0 ≤ z := hz0.1
          have hz2 : z ≤ 1000000001000 := hz0.2
          obtain ⟨w2, hput, hI2, hfr⟩ := hI.put x (z + 1)
          rw [← hz] at hlk
          have HZ := hid hz
          have HI2 := hid hI2
          have HS2 := hid (hS.kept hfr (fun e => hne e.symm))
          have HG2 := hid (hgr.trans hfr (fun _ _ e => .inl e))
          clear hb hle hle2 hz hcn hI hS hgr g' hI2 hfr hx hz0
          go_wp2
          go_roundw
          case rel => exact ⟨m + 1, by omega, by go_num, HG2.out, HI2.out.congr (fun s => by
            have := HCT.out s
            have := HZ.out
            by_cases hsx : s = x
            · subst hsx; simp only [if_true] at *; omega
            · simp only [if_neg hsx] at *; omega), HS2.out⟩
          case measure => simp [intOf]; omega
        · obtain rfl : m = ns.length := by omega
          obtain ⟨wa, rfl⟩ : ∃ q : World, q = wr := ⟨_, rfl⟩
          rw [List.take_length] at hI
          have e3 : wa.cell? ⟨w'.heap.size, 3, none⟩ = some (.slice av l.length cap) := hgr.cell (cell_of_get HBX.out 3) (by simp; omega)
          have HGA := hid hgr
          have HIA := hid hI
          have HSA := hid hS
          clear g' hgr hI hS
          go_wp2
          go_loopw [40] (fun i wr => ∃ j : Nat, j ≤ l.length ∧ i = .int .i64 j ∧ Fr (fun c => c = bb ∨ c = ob) Wb wr ∧ MpI wr bb (fun s => f s + (ns.count s : Nat)) ∧ MpS wr ob (fun s => S1 s ∨ (s ∈ fvs (l.take j) ∧ f s + (ns.count s : Nat) = 0))) (fun i _ => l.length - (intOf i).toNat)
          case atStart => exact ⟨0, Nat.zero_le _, rfl, HGA.out, HIA.out, HSA.out.congr (fun s => by simp [fvs])⟩
          case round =>
            obtain ⟨j, hj, rfl, hgr, hI, hS⟩ := hrel
            by_cases hlt : j < l.length
            · obtain ⟨x, hx⟩ := at_of_lt hlt
              obtain ⟨g, o, rfl, hDg, hel⟩ := HH.out (fun e => by rw [e] at hlt; simp at hlt)
              obtain ⟨an', cn', aa', ca', he, hc⟩ := hel j x hx
              have hwr := HWR.out wr hgr
              have c0 := hwr.cell he.c0 hDg
              have c1 := hwr.cell he.c1 hDg
              have c2 := hwr.cell he.c2 hDg
              have c3 := hwr.cell he.c3 hDg
              have hsz := (sizes_take l j x hx)
              have hcall := fun o => free_step he hc (HS.out x (List.mem_of_getElem? hx)) (wr.alloc o) (hwr.alloc o) bb ob (fun s => f s + (ns.count s : Nat)) (fun s => S1 s ∨ (s ∈ fvs (l.take j) ∧ f s + (ns.count s : Nat) = 0)) HD.out.1 HD.out.2 hne
                (hI.kept ((Fr.refl (fun _ => False) wr).alloc o) (fun e => e)) (hS.kept ((Fr.refl (fun _ => False) wr).alloc o) (fun e => e)) (fun s => by have := HF.out s; have : ns.count s ≤ 900 := Nat.le_trans List.count_le_length hnl; omega)
              have HGR := hid hgr
              have HFT := hid (fvs_take l j x hx)
              clear hel he hc hwr hx hI hS hgr hsz
              go_wp2_with (go_at_call 61; (with_reducible refine (hcall _).mono ?_); rintro e w2 ⟨rfl, hfr, hI2, hS2⟩; clear hcall; have HI2 := hid hI2; have HS2 := hid hS2; clear hI2 hS2)
              go_roundw
              case rel => exact ⟨j + 1, by omega, by go_num, (HGR.out.alloc _).trans hfr (fun _ _ e => e), HI2.out, HS2.out.congr (fun s => by
                rw [HFT.out s]
                constructor
                · rintro ((h | ⟨h1, h2⟩) | ⟨h1, h2⟩)
                  · exact .inl h
                  · exact .inr ⟨.inl h1, h2⟩
                  · exact .inr ⟨.inr h1, h2⟩
                · rintro (h | ⟨h1 | h1, h2⟩)
                  · exact .inl (.inl h)
                  · exact .inl (.inr ⟨h1, h2⟩)
                  · exact .inr ⟨h1, h2⟩)⟩
              case measure => simp [intOf]; omega
            · obtain rfl : j = l.length := by omega
              obtain ⟨wc, rfl⟩ : ∃ q : World, q = wr := ⟨_, rfl⟩
              rw [List.take_length] at hS
              have e2 : wc.cell? ⟨w'.heap.size, 2, none⟩ = some (.slice an ns.length cn) := hgr.cell (cell_of_get HBX.out 2) (by simp; omega)
              have HGC := hid hgr
              have HIC := hid hI
              have HSC := hid hS
              clear hgr hI hS
              go_wp2
              go_loopw [52] (fun i wr => ∃ m : Nat, m ≤ ns.length ∧ i = .int .i64 m ∧ Fr (fun c => c = bb ∨ c = ob) Wb wr ∧ MpI wr bb (fun s => f s + (ns.count s : Nat) - ((ns.take m).count s : Nat)) ∧ MpS wr ob (fun s => S1 s ∨ (s ∈ fvs l ∧ f s + (ns.count s : Nat) = 0))) (fun i _ => ns.length - (intOf i).toNat)
              case atStart => exact ⟨0, Nat.zero_le _, rfl, HGC.out, HIC.out.congr (fun s => by simp), HSC.out⟩
              case round =>
                obtain ⟨m, hm, rfl, hgr, hI, hS⟩ := hrel
                have g' := hgr
                by_cases hlt : m < ns.length
                · obtain ⟨x, hx⟩ := at_of_lt hlt
                  obtain ⟨gn, on, cpn, en, -, -, hDn, hcn⟩ := HNS.out.row (fun e => by rw [e] at hlt; simp at hlt)
                  simp only [Value.slice.injEq] at en
                  obtain ⟨rfl, -, rfl⟩ := en
                  have c0 := (HWR.out wr hgr).cell (hcn m x hx) hDn
                  have hlk := hI.look x
                  have hb := HF.out x
                  have HCT := hid (count_take ns m x hx)
                  have hle : (ns.take m).count x + 1 ≤ ns.count x := by
                    have h1 := count_take ns m x hx x
                    have h2 : (ns.take (m + 1)).count x ≤ ns.count x := (List.take_sublist _ _).count_le x
                    simp at h1; omega
                  have hle2 : ns.count x ≤ 900 := Nat.le_trans List.count_le_length hnl
                  obtain ⟨z, hz⟩ : ∃ z : Int, z = f x + (ns.count x : Nat) - ((ns.take m).count x : Nat) := ⟨_, rfl⟩
                  have hz0 : 0 ≤ z ∧ z ≤ 1000000001000 := by omega
                  have hz1 : 0 ≤ z := hz0.1
                  have hz2 : z ≤ 1000000001000 := hz0.2
                  have hz3 : 1 ≤ z := by omega
                  obtain ⟨w2, hput, hI2, hfr⟩ := hI.put x (z - 1)
                  rw [← hz] at hlk
                  have HZ := hid hz
                  have HI2 := hid hI2
                  have HS2 := hid (hS.kept hfr (fun e => hne e.symm))
                  have HG2 := hid (hgr.trans hfr (fun _ _ e => .inl e))
                  clear hb hle hle2 hz hcn hI hS hgr g' hI2 hfr hx hz0
                  go_wp2
                  go_roundw
                  case rel => exact ⟨m + 1, by omega, by go_num, HG2.out, HI2.out.congr (fun s => by
                    have := HCT.out s
                    have := HZ.out
                    by_cases hsx : s = x
                    · subst hsx; simp only [if_true] at *; omega
                    · simp only [if_neg hsx] at *; omega), HS2.out⟩
                  case measure => simp [intOf]; omega
                · obtain rfl : m = ns.length := by omega
                  rw [List.take_length] at hI
                  have HFIN := hid (show FrPost w' bb ob f S (.mk 5 t ns l) (.returned (.tuple #[])) wr from ⟨rfl, (Grew.any HGB.out).trans hgr (fun _ _ e => e), hI.congr (fun s => by omega), hS.congr (fun s => by
                    rw [mem_fv, HS1.out]
                    have h0 := (HF.out s).1
                    have hcz : ns.count s = 0 ↔ s ∉ ns := List.count_eq_zero
                    constructor
                    · rintro ((h | ⟨h1, h2, h3⟩) | ⟨h1, h2⟩)
                      · exact .inl h
                      · first | exact .inr ⟨.inl ⟨h1, h2⟩, h3⟩ | exact .inr ⟨.inl ⟨rfl, h2⟩, h3⟩
                      · exact .inr ⟨.inr ⟨h1, hcz.1 (by omega)⟩, by omega⟩
                    · rintro (h | ⟨⟨h1, h2⟩ | ⟨h1, h2⟩, h3⟩)
                      · exact .inl (.inl h)
                      · first | exact .inl (.inr ⟨h1, h2, h3⟩) | exact .inl (.inr ⟨trivial, h2, h3⟩)
                      · exact .inr ⟨h1, by have := hcz.2 h2; omega⟩)⟩)
                  clear g' hgr hI hS
                  go_wp2
                  exact bodyPost_ret (results_none Try.results61 _ _ _) rfl HFIN.out

    · have HK1 := hid (Fr.refl (fun c => c = bb ∨ c = ob) Wb)
      have HI1 := HIb
      have HS1' := hid (HSb.out.congr (T := S1) (fun s => by rw [HS1.out]; constructor <;> intro h <;> first | exact .inl h | (rcases h with h | ⟨-, h1, h2⟩ <;> first | exact h | (subst h1; exact absurd h2 hft))))
      rw [hWb] at hlk
      go_enter Try.func61, Try.ntmps61
      go_wp2
      rw [← hWb]
      clear hlk
      go_loopw [28] (fun i wr => ∃ m : Nat, m ≤ ns.length ∧ i = .int .i64 m ∧ Fr (fun c => c = bb ∨ c = ob) Wb wr ∧ MpI wr bb (fun s => f s + ((ns.take m).count s : Nat)) ∧ MpS wr ob S1) (fun i _ => ns.length - (intOf i).toNat)
      case atStart => exact ⟨0, Nat.zero_le _, rfl, HK1.out, HI1.out.congr (fun s => by simp), HS1'.out⟩
      case round =>
        obtain ⟨m, hm, rfl, hgr, hI, hS⟩ := hrel
        have g' := hgr
        by_cases hlt : m < ns.length
        · obtain ⟨x, hx⟩ := at_of_lt hlt
          obtain ⟨gn, on, cpn, en, -, -, hDn, hcn⟩ := HNS.out.row (fun e => by rw [e] at hlt; simp at hlt)
          simp only [Value.slice.injEq] at en
          obtain ⟨rfl, -, rfl⟩ := en
          have c0 := (HWR.out wr hgr).cell (hcn m x hx) hDn
          have hlk := hI.look x
          have hb := HF.out x
          have HCT := hid (count_take ns m x hx)
          have hle : (ns.take m).count x + 1 ≤ ns.count x := by
            have h1 := count_take ns m x hx x
            have h2 : (ns.take (m + 1)).count x ≤ ns.count x := (List.take_sublist _ _).count_le x
            simp at h1; omega
          have hle2 : ns.count x ≤ 900 := Nat.le_trans List.count_le_length hnl
          obtain ⟨z, hz⟩ : ∃ z : Int, z = f x + ((ns.take m).count x : Nat) := ⟨_, rfl⟩
          have hz0 : 0 ≤ z ∧ z ≤ 1000000001000 := by omega
          have hz1 : 0 ≤ z := hz0.1
          have hz2 : z ≤ 1000000001000 := hz0.2
          obtain ⟨w2, hput, hI2, hfr⟩ := hI.put x (z + 1)
          rw [← hz] at hlk
          have HZ := hid hz
          have HI2 := hid hI2
          have HS2 := hid (hS.kept hfr (fun e => hne e.symm))
          have HG2 := hid (hgr.trans hfr (fun _ _ e => .inl e))
          clear hb hle hle2 hz hcn hI hS hgr g' hI2 hfr hx hz0
          go_wp2
          go_roundw
          case rel => exact ⟨m + 1, by omega, by go_num, HG2.out, HI2.out.congr (fun s => by
            have := HCT.out s
            have := HZ.out
            by_cases hsx : s = x
            · subst hsx; simp only [if_true] at *; omega
            · simp only [if_neg hsx] at *; omega), HS2.out⟩
          case measure => simp [intOf]; omega
        · obtain rfl : m = ns.length := by omega
          obtain ⟨wa, rfl⟩ : ∃ q : World, q = wr := ⟨_, rfl⟩
          rw [List.take_length] at hI
          have e3 : wa.cell? ⟨w'.heap.size, 3, none⟩ = some (.slice av l.length cap) := hgr.cell (cell_of_get HBX.out 3) (by simp; omega)
          have HGA := hid hgr
          have HIA := hid hI
          have HSA := hid hS
          clear g' hgr hI hS
          go_wp2
          go_loopw [40] (fun i wr => ∃ j : Nat, j ≤ l.length ∧ i = .int .i64 j ∧ Fr (fun c => c = bb ∨ c = ob) Wb wr ∧ MpI wr bb (fun s => f s + (ns.count s : Nat)) ∧ MpS wr ob (fun s => S1 s ∨ (s ∈ fvs (l.take j) ∧ f s + (ns.count s : Nat) = 0))) (fun i _ => l.length - (intOf i).toNat)
          case atStart => exact ⟨0, Nat.zero_le _, rfl, HGA.out, HIA.out, HSA.out.congr (fun s => by simp [fvs])⟩
          case round =>
            obtain ⟨j, hj, rfl, hgr, hI, hS⟩ := hrel
            by_cases hlt : j < l.length
            · obtain ⟨x, hx⟩ := at_of_lt hlt
              obtain ⟨g, o, rfl, hDg, hel⟩ := HH.out (fun e => by rw [e] at hlt; simp at hlt)
              obtain ⟨an', cn', aa', ca', he, hc⟩ := hel j x hx
              have hwr := HWR.out wr hgr
              have c0 := hwr.cell he.c0 hDg
              have c1 := hwr.cell he.c1 hDg
              have c2 := hwr.cell he.c2 hDg
              have c3 := hwr.cell he.c3 hDg
              have hsz := (sizes_take l j x hx)
              have hcall := fun o => free_step he hc (HS.out x (List.mem_of_getElem? hx)) (wr.alloc o) (hwr.alloc o) bb ob (fun s => f s + (ns.count s : Nat)) (fun s => S1 s ∨ (s ∈ fvs (l.take j) ∧ f s + (ns.count s : Nat) = 0)) HD.out.1 HD.out.2 hne
                (hI.kept ((Fr.refl (fun _ => False) wr).alloc o) (fun e => e)) (hS.kept ((Fr.refl (fun _ => False) wr).alloc o) (fun e => e)) (fun s => by have := HF.out s; have : ns.count s ≤ 900 := Nat.le_trans List.count_le_length hnl; omega)
              have HGR := hid hgr
              have HFT := hid (fvs_take l j x hx)
              clear hel he hc hwr hx hI hS hgr hsz
              go_wp2_with (go_at_call 61; (with_reducible refine (hcall _).mono ?_); rintro e w2 ⟨rfl, hfr, hI2, hS2⟩; clear hcall; have HI2 := hid hI2; have HS2 := hid hS2; clear hI2 hS2)
              go_roundw
              case rel => exact ⟨j + 1, by omega, by go_num, (HGR.out.alloc _).trans hfr (fun _ _ e => e), HI2.out, HS2.out.congr (fun s => by
                rw [HFT.out s]
                constructor
                · rintro ((h | ⟨h1, h2⟩) | ⟨h1, h2⟩)
                  · exact .inl h
                  · exact .inr ⟨.inl h1, h2⟩
                  · exact .inr ⟨.inr h1, h2⟩
                · rintro (h | ⟨h1 | h1, h2⟩)
                  · exact .inl (.inl h)
                  · exact .inl (.inr ⟨h1, h2⟩)
                  · exact .inr ⟨h1, h2⟩)⟩
              case measure => simp [intOf]; omega
            · obtain rfl : j = l.length := by omega
              obtain ⟨wc, rfl⟩ : ∃ q : World, q = wr := ⟨_, rfl⟩
              rw [List.take_length] at hS
              have e2 : wc.cell? ⟨w'.heap.size, 2, none⟩ = some (.slice an ns.length cn) := hgr.cell (cell_of_get HBX.out 2) (by simp; omega)
              have HGC := hid hgr
              have HIC := hid hI
              have HSC := hid hS
              clear hgr hI hS
              go_wp2
              go_loopw [52] (fun i wr => ∃ m : Nat, m ≤ ns.length ∧ i = .int .i64 m ∧ Fr (fun c => c = bb ∨ c = ob) Wb wr ∧ MpI wr bb (fun s => f s + (ns.count s : Nat) - ((ns.take m).count s : Nat)) ∧ MpS wr ob (fun s => S1 s ∨ (s ∈ fvs l ∧ f s + (ns.count s : Nat) = 0))) (fun i _ => ns.length - (intOf i).toNat)
              case atStart => exact ⟨0, Nat.zero_le _, rfl, HGC.out, HIC.out.congr (fun s => by simp), HSC.out⟩
              case round =>
                obtain ⟨m, hm, rfl, hgr, hI, hS⟩ := hrel
                have g' := hgr
                by_cases hlt : m < ns.length
                · obtain ⟨x, hx⟩ := at_of_lt hlt
                  obtain ⟨gn, on, cpn, en, -, -, hDn, hcn⟩ := HNS.out.row (fun e => by rw [e] at hlt; simp at hlt)
                  simp only [Value.slice.injEq] at en
                  obtain ⟨rfl, -, rfl⟩ := en
                  have c0 := (HWR.out wr hgr).cell (hcn m x hx) hDn
                  have hlk := hI.look x
                  have hb := HF.out x
                  have HCT := hid (count_take ns m x hx)
                  have hle : (ns.take m).count x + 1 ≤ ns.count x := by
                    have h1 := count_take ns m x hx x
                    have h2 : (ns.take (m + 1)).count x ≤ ns.count x := (List.take_sublist _ _).count_le x
                    simp at h1; omega
                  have hle2 : ns.count x ≤ 900 := Nat.le_trans List.count_le_length hnl
                  obtain ⟨z, hz⟩ : ∃ z : Int, z = f x + (ns.count x : Nat) - ((ns.take m).count x : Nat) := ⟨_, rfl⟩
                  have hz0 : 0 ≤ z ∧ z ≤ 1000000001000 := by omega
                  have hz1 : 0 ≤ z := hz0.1
                  have hz2 : z ≤ 1000000001000 := hz0.2
                  have hz3 : 1 ≤ z := by omega
                  obtain ⟨w2, hput, hI2, hfr⟩ := hI.put x (z - 1)
                  rw [← hz] at hlk
                  have HZ := hid hz
                  have HI2 := hid hI2
                  have HS2 := hid (hS.kept hfr (fun e => hne e.symm))
                  have HG2 := hid (hgr.trans hfr (fun _ _ e => .inl e))
                  clear hb hle hle2 hz hcn hI hS hgr g' hI2 hfr hx hz0
                  go_wp2
                  go_roundw
                  case rel => exact ⟨m + 1, by omega, by go_num, HG2.out, HI2.out.congr (fun s => by
                    have := HCT.out s
                    have := HZ.out
                    by_cases hsx : s = x
                    · subst hsx; simp only [if_true] at *; omega
                    · simp only [if_neg hsx] at *; omega), HS2.out⟩
                  case measure => simp [intOf]; omega
                · obtain rfl : m = ns.length := by omega
                  rw [List.take_length] at hI
                  have HFIN := hid (show FrPost w' bb ob f S (.mk 5 t ns l) (.returned (.tuple #[])) wr from ⟨rfl, (Grew.any HGB.out).trans hgr (fun _ _ e => e), hI.congr (fun s => by omega), hS.congr (fun s => by
                    rw [mem_fv, HS1.out]
                    have h0 := (HF.out s).1
                    have hcz : ns.count s = 0 ↔ s ∉ ns := List.count_eq_zero
                    constructor
                    · rintro ((h | ⟨h1, h2, h3⟩) | ⟨h1, h2⟩)
                      · exact .inl h
                      · first | exact .inr ⟨.inl ⟨h1, h2⟩, h3⟩ | exact .inr ⟨.inl ⟨rfl, h2⟩, h3⟩
                      · exact .inr ⟨.inr ⟨h1, hcz.1 (by omega)⟩, by omega⟩
                    · rintro (h | ⟨⟨h1, h2⟩ | ⟨h1, h2⟩, h3⟩)
                      · exact .inl (.inl h)
                      · first | exact .inl (.inr ⟨h1, h2, h3⟩) | exact .inl (.inr ⟨trivial, h2, h3⟩)
                      · exact .inr ⟨h1, by have := hcz.2 h2; omega⟩)⟩)
                  clear g' hgr hI hS
                  go_wp2
                  exact bodyPost_ret (results_none Try.results61 _ _ _) rfl HFIN.out

  · have HK1 := hid (Fr.refl (fun c => c = bb ∨ c = ob) Wb)
    have HI1 := HIb
    have HS1' := hid (HSb.out.congr (T := S1) (fun s => by rw [HS1.out]; constructor <;> intro h <;> first | exact .inl h | (rcases h with h | ⟨h1, -⟩ <;> first | exact h | exact absurd h1 hk5)))
    go_enter Try.func61, Try.ntmps61
    go_wp2
    rw [← hWb]
    go_loopw [28] (fun i wr => ∃ m : Nat, m ≤ ns.length ∧ i = .int .i64 m ∧ Fr (fun c => c = bb ∨ c = ob) Wb wr ∧ MpI wr bb (fun s => f s + ((ns.take m).count s : Nat)) ∧ MpS wr ob S1) (fun i _ => ns.length - (intOf i).toNat)
    case atStart => exact ⟨0, Nat.zero_le _, rfl, HK1.out, HI1.out.congr (fun s => by simp), HS1'.out⟩
    case round =>
      obtain ⟨m, hm, rfl, hgr, hI, hS⟩ := hrel
      have g' := hgr
      by_cases hlt : m < ns.length
      · obtain ⟨x, hx⟩ := at_of_lt hlt
        obtain ⟨gn, on, cpn, en, -, -, hDn, hcn⟩ := HNS.out.row (fun e => by rw [e] at hlt; simp at hlt)
        simp only [Value.slice.injEq] at en
        obtain ⟨rfl, -, rfl⟩ := en
        have c0 := (HWR.out wr hgr).cell (hcn m x hx) hDn
        have hlk := hI.look x
        have hb := HF.out x
        have HCT := hid (count_take ns m x hx)
        have hle : (ns.take m).count x + 1 ≤ ns.count x := by
          have h1 := count_take ns m x hx x
          have h2 : (ns.take (m + 1)).count x ≤ ns.count x := (List.take_sublist _ _).count_le x
          simp at h1; omega
        have hle2 : ns.count x ≤ 900 := Nat.le_trans List.count_le_length hnl
        obtain ⟨z, hz⟩ : ∃ z : Int, z = f x + ((ns.take m).count x : Nat) := ⟨_, rfl⟩
        have hz0 : 0 ≤ z ∧ z ≤ 1000000001000 := by omega
        have hz1 : 0 ≤ z := hz0.1
        have hz2 : z ≤ 1000000001000 := hz0.2
        obtain ⟨w2, hput, hI2, hfr⟩ := hI.put x (z + 1)
        rw [← hz] at hlk
        have HZ := hid hz
        have HI2 := hid hI2
        have HS2 := hid (hS.kept hfr (fun e => hne e.symm))
        have HG2 := hid (hgr.trans hfr (fun _ _ e => .inl e))
        clear hb hle hle2 hz hcn hI hS hgr g' hI2 hfr hx hz0
        go_wp2
        go_roundw
        case rel => exact ⟨m + 1, by omega, by go_num, HG2.out, HI2.out.congr (fun s => by
          have := HCT.out s
          have := HZ.out
          by_cases hsx : s = x
          · subst hsx; simp only [if_true] at *; omega
          · simp only [if_neg hsx] at *; omega), HS2.out⟩
        case measure => simp [intOf]; omega
      · obtain rfl : m = ns.length := by omega
        obtain ⟨wa, rfl⟩ : ∃ q : World, q = wr := ⟨_, rfl⟩
        rw [List.take_length] at hI
        have e3 : wa.cell? ⟨w'.heap.size, 3, none⟩ = some (.slice av l.length cap) := hgr.cell (cell_of_get HBX.out 3) (by simp; omega)
        have HGA := hid hgr
        have HIA := hid hI
        have HSA := hid hS
        clear g' hgr hI hS
        go_wp2
        go_loopw [40] (fun i wr => ∃ j : Nat, j ≤ l.length ∧ i = .int .i64 j ∧ Fr (fun c => c = bb ∨ c = ob) Wb wr ∧ MpI wr bb (fun s => f s + (ns.count s : Nat)) ∧ MpS wr ob (fun s => S1 s ∨ (s ∈ fvs (l.take j) ∧ f s + (ns.count s : Nat) = 0))) (fun i _ => l.length - (intOf i).toNat)
        case atStart => exact ⟨0, Nat.zero_le _, rfl, HGA.out, HIA.out, HSA.out.congr (fun s => by simp [fvs])⟩
        case round =>
          obtain ⟨j, hj, rfl, hgr, hI, hS⟩ := hrel
          by_cases hlt : j < l.length
          · obtain ⟨x, hx⟩ := at_of_lt hlt
            obtain ⟨g, o, rfl, hDg, hel⟩ := HH.out (fun e => by rw [e] at hlt; simp at hlt)
            obtain ⟨an', cn', aa', ca', he, hc⟩ := hel j x hx
            have hwr := HWR.out wr hgr
            have c0 := hwr.cell he.c0 hDg
            have c1 := hwr.cell he.c1 hDg
            have c2 := hwr.cell he.c2 hDg
            have c3 := hwr.cell he.c3 hDg
            have hsz := (sizes_take l j x hx)
            have hcall := fun o => free_step he hc (HS.out x (List.mem_of_getElem? hx)) (wr.alloc o) (hwr.alloc o) bb ob (fun s => f s + (ns.count s : Nat)) (fun s => S1 s ∨ (s ∈ fvs (l.take j) ∧ f s + (ns.count s : Nat) = 0)) HD.out.1 HD.out.2 hne
              (hI.kept ((Fr.refl (fun _ => False) wr).alloc o) (fun e => e)) (hS.kept ((Fr.refl (fun _ => False) wr).alloc o) (fun e => e)) (fun s => by have := HF.out s; have : ns.count s ≤ 900 := Nat.le_trans List.count_le_length hnl; omega)
            have HGR := hid hgr
            have HFT := hid (fvs_take l j x hx)
            clear hel he hc hwr hx hI hS hgr hsz
            go_wp2_with (go_at_call 61; (with_reducible refine (hcall _).mono ?_); rintro e w2 ⟨rfl, hfr, hI2, hS2⟩; clear hcall; have HI2 := hid hI2; have HS2 := hid hS2; clear hI2 hS2)
            go_roundw
            case rel => exact ⟨j + 1, by omega, by go_num, (HGR.out.alloc _).trans hfr (fun _ _ e => e), HI2.out, HS2.out.congr (fun s => by
              rw [HFT.out s]
              constructor
              · rintro ((h | ⟨h1, h2⟩) | ⟨h1, h2⟩)
                · exact .inl h
                · exact .inr ⟨.inl h1, h2⟩
                · exact .inr ⟨.inr h1, h2⟩
              · rintro (h | ⟨h1 | h1, h2⟩)
                · exact .inl (.inl h)
                · exact .inl (.inr ⟨h1, h2⟩)
                · exact .inr ⟨h1, h2⟩)⟩
            case measure => simp [intOf]; omega
          · obtain rfl : j = l.length := by omega
            obtain ⟨wc, rfl⟩ : ∃ q : World, q = wr := ⟨_, rfl⟩
            rw [List.take_length] at hS
            have e2 : wc.cell? ⟨w'.heap.size, 2, none⟩ = some (.slice an ns.length cn) := hgr.cell (cell_of_get HBX.out 2) (by simp; omega)
            have HGC := hid hgr
            have HIC := hid hI
            have HSC := hid hS
            clear hgr hI hS
            go_wp2
            go_loopw [52] (fun i wr => ∃ m : Nat, m ≤ ns.length ∧ i = .int .i64 m ∧ Fr (fun c => c = bb ∨ c = ob) Wb wr ∧ MpI wr bb (fun s => f s + (ns.count s : Nat) - ((ns.take m).count s : Nat)) ∧ MpS wr ob (fun s => S1 s ∨ (s ∈ fvs l ∧ f s + (ns.count s : Nat) = 0))) (fun i _ => ns.length - (intOf i).toNat)
            case atStart => exact ⟨0, Nat.zero_le _, rfl, HGC.out, HIC.out.congr (fun s => by simp), HSC.out⟩
            case round =>
              obtain ⟨m, hm, rfl, hgr, hI, hS⟩ := hrel
              have g' := hgr
              by_cases hlt : m < ns.length
              · obtain ⟨x, hx⟩ := at_of_lt hlt
                obtain ⟨gn, on, cpn, en, -, -, hDn, hcn⟩ := HNS.out.row (fun e => by rw [e] at hlt; simp at hlt)
                simp only [Value.slice.injEq] at en
                obtain ⟨rfl, -, rfl⟩ := en
                have c0 := (HWR.out wr hgr).cell (hcn m x hx) hDn
                have hlk := hI.look x
                have hb := HF.out x
                have HCT := hid (count_take ns m x hx)
                have hle : (ns.take m).count x + 1 ≤ ns.count x := by
                  have h1 := count_take ns m x hx x
                  have h2 : (ns.take (m + 1)).count x ≤ ns.count x := (List.take_sublist _ _).count_le x
                  simp at h1; omega
                have hle2 : ns.count x ≤ 900 := Nat.le_trans List.count_le_length hnl
                obtain ⟨z, hz⟩ : ∃ z : Int, z = f x + (ns.count x : Nat) - ((ns.take m).count x : Nat) := ⟨_, rfl⟩
                have hz0 : 0 ≤ z ∧ z ≤ 1000000001000 := by omega
                have hz1 : 0 ≤ z := hz0.1
                have hz2 : z ≤ 1000000001000 := hz0.2
                have hz3 : 1 ≤ z := by omega
                obtain ⟨w2, hput, hI2, hfr⟩ := hI.put x (z - 1)
                rw [← hz] at hlk
                have HZ := hid hz
                have HI2 := hid hI2
                have HS2 := hid (hS.kept hfr (fun e => hne e.symm))
                have HG2 := hid (hgr.trans hfr (fun _ _ e => .inl e))
                clear hb hle hle2 hz hcn hI hS hgr g' hI2 hfr hx hz0
                go_wp2
                go_roundw
                case rel => exact ⟨m + 1, by omega, by go_num, HG2.out, HI2.out.congr (fun s => by
                  have := HCT.out s
                  have := HZ.out
                  by_cases hsx : s = x
                  · subst hsx; simp only [if_true] at *; omega
                  · simp only [if_neg hsx] at *; omega), HS2.out⟩
                case measure => simp [intOf]; omega
              · obtain rfl : m = ns.length := by omega
                rw [List.take_length] at hI
                have HFIN := hid (show FrPost w' bb ob f S (.mk k t ns l) (.returned (.tuple #[])) wr from ⟨rfl, (Grew.any HGB.out).trans hgr (fun _ _ e => e), hI.congr (fun s => by omega), hS.congr (fun s => by
                  rw [mem_fv, HS1.out]
                  have h0 := (HF.out s).1
                  have hcz : ns.count s = 0 ↔ s ∉ ns := List.count_eq_zero
                  constructor
                  · rintro ((h | ⟨h1, h2, h3⟩) | ⟨h1, h2⟩)
                    · exact .inl h
                    · first | exact .inr ⟨.inl ⟨h1, h2⟩, h3⟩ | exact .inr ⟨.inl ⟨rfl, h2⟩, h3⟩
                    · exact .inr ⟨.inr ⟨h1, hcz.1 (by omega)⟩, by omega⟩
                  · rintro (h | ⟨⟨h1, h2⟩ | ⟨h1, h2⟩, h3⟩)
                    · exact .inl (.inl h)
                    · first | exact .inl (.inr ⟨h1, h2, h3⟩) | exact .inl (.inr ⟨trivial, h2, h3⟩)
                    · exact .inr ⟨h1, by have := hcz.2 h2; omega⟩)⟩)
                clear g' hgr hI hS
                go_wp2
                exact bodyPost_ret (results_none Try.results61 _ _ _) rfl HFIN.out

end Go.Proofs.Ytddcfnjmppijjaa
