/- The walk of a schema's Type. -/
import Derived.Test.YtkableklofokdaaFind
set_option linter.unusedSimpArgs false
set_option linter.unusedVariables false
namespace Go.Proofs.Ytkableklofokdaa
open Go Go.RowKit Go.Maps Go.WideMaps

/-- A slot's type; 0: there is none. -/
def typeI (ts : List Tm) (s q : ByteArray) : Int := if hasSlot ts s q = true then ((findD ts s).s.getD (slotI ts s q).toNat default).t else 0
theorem hasSlot_some {ts : List Tm} {s q : ByteArray} (h : hasSlot ts s q = true) : ∃ i, i < ts.length ∧ placeM ts s.data.toList = some (i : Int) ∧ findD ts s = ts.getD i default := by
  unfold hasSlot slotI findD at h
  cases hpl : (ts.findIdx? fun t => t.n.data.toList == s.data.toList) with
  | none => rw [hpl] at h; simp [sIdx, noTm] at h
  | some i =>
    refine ⟨i, (List.findIdx?_eq_some_iff_getElem.1 hpl).1, ?_, ?_⟩
    · unfold placeM; rw [hpl]; rfl
    · unfold findD; rw [hpl]

theorem type_calls (p : Value) (ts : List Tm) (s q : ByteArray) (lo hi : Nat) (w : World) (h : SchemaAt lo hi w p ts) (hhi : hi ≤ w.heap.size) (hs : s.size ≤ maxLen) (hn : ts.length ≤ 100) (hf : ∀ t ∈ ts, t.s.length ≤ 1000) (hfd : (findD ts s).s.length ≤ 1000) :
    Calls Try.prog 13 #[p, .string s, .string q] w fun e w' => e = .returned (.int .i64 (typeI ts s q)) ∧ Below w.heap.size w w' := by
  have cS := slot_calls p ts s q lo hi w h hhi hs hn hf hfd
  cases hsl : hasSlot ts s q
  · rw [hsl] at cS
    have hfin : typeI ts s q = 0 := by unfold typeI; rw [hsl]; rfl
    rw [hfin]
    obtain ⟨g, M, lv, mn, rfl, _⟩ := h
    clear hsl hfin
    go_enter Try.func13, Try.ntmps13
    go_wp2_with fail
    refine cS.mono ?_; rintro e w1 ⟨rfl, hb⟩
    go_wp2_with fail
    go_ret
    exact ⟨rfl, hb⟩
  · rw [hsl] at cS
    obtain ⟨i, hil, hpm, hfi⟩ := hasSlot_some hsl
    have hfin : typeI ts s q = ((ts.getD i default).s.getD (slotI ts s q).toNat default).t := by unfold typeI; rw [hsl, if_pos rfl, hfi]
    have hr0 : slotR ts s q = slotI ts s q := by unfold slotR; rw [if_pos]; unfold hasSlot at hsl; simpa using hsl
    have hge : 0 ≤ slotI ts s q := by unfold hasSlot at hsl; simpa using hsl
    have hlt : slotI ts s q < (ts.getD i default).s.length := by
      rcases sIdx_range q (findD ts s).s 0 with h1 | ⟨_, h2⟩
      · unfold slotI at hge; omega
      · rw [hfi] at h2; unfold slotI; rw [hfi]; simpa using h2
    rw [hr0] at cS
    obtain ⟨j, hj⟩ : ∃ j : Nat, slotI ts s q = (j : Int) := ⟨(slotI ts s q).toNat, by omega⟩
    rw [hj] at hfin hlt cS
    rw [Int.toNat_natCast] at hfin
    rw [hfin]
    have hjl : j < (ts.getD i default).s.length := by omega
    have HSc := Lib.hid h
    obtain ⟨g, M, lv, mn, rfl, h⟩ := h
    obtain ⟨t, ht⟩ : ∃ t, ts.getD i default = t := ⟨_, rfl⟩
    rw [ht] at hjl ⊢
    obtain ⟨tn, tf⟩ := t
    simp only at hjl ⊢
    obtain ⟨fd, hfd2⟩ : ∃ fd, tf.getD j default = fd := ⟨_, rfl⟩
    rw [hfd2]
    have Ht := Lib.hid ht
    have Hf := Lib.hid hfd2
    clear hsl hfin hr0 hge hlt hj ht hfd2
    go_enter Try.func13, Try.ntmps13
    go_wp2_with fail
    refine cS.mono ?_; rintro e w1 ⟨rfl, hb⟩
    clear h
    have hk1 := HSc.out.kept (Kept.of_below hb lo hhi)
    obtain ⟨g', M, lv, mn, hge, hglo, hghi, hc0, hc1, hMlo, hMhi, hT, hm⟩ := hk1
    obtain rfl : g = g' := by simpa using hge
    have hrun := hm.look1N hs
    rw [hpm] at hrun
    obtain ⟨A, c, vs, rfl, hc, hr, hv⟩ := hT
    obtain ⟨ad, hA, _, _, e0, e1⟩ := hr.tm i (by rw [hv.1]; exact hil)
    subst hA
    obtain ⟨hname, hslots⟩ := hv.2 i hil
    rw [Ht.out] at hslots
    simp only at hslots
    obtain ⟨A2, c2, hsv2, hc2, hr2⟩ := hslots
    rw [hsv2] at e1
    obtain ⟨ad2, hA2, _, _, f0, f1⟩ := hr2.fd j hjl
    subst hA2
    rw [Hf.out] at f1
    have hi0 : (0 : Int) ≤ (i : Int) := Int.natCast_nonneg _
    have hi1 : (i : Int) < (ts.length : Int) := by omega
    have hj0 : (0 : Int) ≤ (j : Int) := Int.natCast_nonneg _
    have hj1 : (j : Int) < (tf.length : Int) := by omega
    clear hm hr hv hname hsv2 hr2 hge HSc hf hfi hpm e0 f0 cS hfd Ht Hf
    go_wp2_with fail
    go_quiet (fail)
    go_wp2_with fail
    go_ret
    exact ⟨rfl, ⟨hb.os, hb.tape, hb.output, hb.size, hb.block⟩⟩

end Go.Proofs.Ytkableklofokdaa
