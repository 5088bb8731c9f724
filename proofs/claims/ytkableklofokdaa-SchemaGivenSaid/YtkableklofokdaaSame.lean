/- The walk of Same at equal templates. -/
import Derived.Test.YtkableklofokdaaGreat
set_option linter.unusedSimpArgs false
set_option linter.unusedVariables false
namespace Go.Proofs.Ytkableklofokdaa
open Go Go.RowKit Go.Maps Go.WideMaps

set_option maxRecDepth 8000 in
theorem same_calls (va vb : Value) (ts : List Tm) (w : World) (h : RdT 0 w.heap.size w va ts) (h' : RdT 0 w.heap.size w vb ts) (hn : ts.length ≤ maxLen) (hsz : ∀ t ∈ ts, t.s.length ≤ maxLen) :
    Calls Try.prog 11 #[va, vb] w fun e w' => e = .returned (.bool true) ∧ Below w.heap.size w w' := by
  obtain ⟨A, c, vs, rfl, hc, hr, hvs⟩ := h
  obtain ⟨B, d, us, rfl, hd, hr', hus⟩ := h'
  obtain ⟨n, hnn⟩ : ∃ n, n = ts.length := ⟨_, rfl⟩
  rw [← hnn] at hc hd hn ⊢
  have HN := Lib.hid hnn
  have HR := Lib.hid hr
  have HV := Lib.hid hvs
  have HR' := Lib.hid hr'
  have HV' := Lib.hid hus
  have HS := Lib.hid hsz
  clear hnn hr hvs hsz hr' hus
  go_enter Try.func11, Try.ntmps11
  go_wp2_with fail
  go_loopw [5] (fun i wr => ∃ k : Nat, k ≤ n ∧ i = .int .i64 k ∧ Below w.heap.size w wr) (fun i _ => n - (intOf i).toNat)
  case atStart => exact ⟨0, by omega, rfl, Below.refl _ _⟩
  case round =>
    obtain ⟨k, hk, rfl, hB⟩ := hrel
    by_cases hlt : k < n
    · have hKp : Kept 0 w.heap.size w wr := Kept.of_below hB 0 (Nat.le_refl _)
      obtain ⟨ad, hA, _, hab, c0, c1⟩ := (HR.out.kept hKp).tm k (by rw [HV.out.1, ← HN.out]; exact hlt)
      subst hA
      obtain ⟨ad', hA', _, hab', d0, d1⟩ := (HR'.out.kept hKp).tm k (by rw [HV'.out.1, ← HN.out]; exact hlt)
      subst hA'
      obtain ⟨hname, hslots⟩ := (HV.out.kept hKp).2 k (by rw [← HN.out]; exact hlt)
      obtain ⟨hname', hslots'⟩ := (HV'.out.kept hKp).2 k (by rw [← HN.out]; exact hlt)
      have hfl := HS.out (ts.getD k default) (by rw [List.getD_eq_getElem?_getD, List.getElem?_eq_getElem (by rw [← HN.out]; exact hlt)]; simp)
      rw [hname] at c0
      rw [hname'] at d0
      obtain ⟨s, hs⟩ : ∃ s, s = (ts.getD k default).n := ⟨_, rfl⟩
      obtain ⟨fs, hfs⟩ : ∃ fs, fs = (ts.getD k default).s := ⟨_, rfl⟩
      rw [← hfs] at hslots hslots' hfl
      rw [← hs] at c0 d0
      obtain ⟨A2, c2, hsv2, hc2, hr2⟩ := hslots
      obtain ⟨B2, d2, hsv2', hd2, hr2'⟩ := hslots'
      rw [hsv2] at c1
      rw [hsv2'] at d1
      obtain ⟨m, hm⟩ : ∃ m, m = fs.length := ⟨_, rfl⟩
      rw [← hm] at c1 hc2 hd2 d1 hfl
      have HM := Lib.hid hm
      have HMM := Lib.hid hfl
      have HR2 := Lib.hid hr2
      have HR2' := Lib.hid hr2'
      clear hname hname' hs hfs hsv2 hsv2' hm hr2 hr2' hfl
      go_wp2_with fail
      go_quiet (fail)
      have hB2 : Below w.heap.size w (wr.drewN nq) := ⟨hB.os, hB.tape, hB.output, hB.size, hB.block⟩
      have HRW : Hid (RdC 0 w.heap.size (wr.drewN nq) A2 (cellsF fs)) := Lib.hid (HR2.out.kept (fun _ _ _ => rfl))
      have HRW' : Hid (RdC 0 w.heap.size (wr.drewN nq) B2 (cellsF fs)) := Lib.hid (HR2'.out.kept (fun _ _ _ => rfl))
      have c1' : (wr.drewN nq).cell? ⟨(ad.add (k * 2)).block, (ad.add (k * 2)).off + 1, none⟩ = some (.slice A2 m c2) := c1
      have d1' : (wr.drewN nq).cell? ⟨(ad'.add (k * 2)).block, (ad'.add (k * 2)).off + 1, none⟩ = some (.slice B2 m d2) := d1
      clear c0 c1 d0 d1 HR2 HR2' hKp
      generalize hW2 : wr.drewN nq = W2
      rw [hW2] at HRW HRW' hB2 c1' d1'
      clear hW2
      go_wp2_with fail
      go_loopw [6] (fun j wv => ∃ y : Nat, y ≤ m ∧ j = .int .i64 y ∧ Below W2.heap.size W2 wv) (fun j _ => m - (intOf j).toNat)
      case atStart => exact ⟨0, by omega, rfl, Below.refl _ _⟩
      case round =>
        obtain ⟨y, hy, rfl, hb⟩ := hrel
        have e1 := (hb.cell (p := ⟨(ad.add (k * 2)).block, (ad.add (k * 2)).off + 1, none⟩) (by have := hB2.size; rw [add_block]; omega)).trans c1'
        have g1 := (hb.cell (p := ⟨(ad'.add (k * 2)).block, (ad'.add (k * 2)).off + 1, none⟩) (by have := hB2.size; rw [add_block]; omega)).trans d1'
        by_cases hym : y < m
        · have hKv : Kept 0 w.heap.size W2 wr := Kept.of_below hb 0 hB2.size
          obtain ⟨ad2, hA2, _, _, f0, f1⟩ := (HRW.out.kept hKv).fd y (by rw [← HM.out]; exact hym)
          obtain ⟨ad3, hA3, _, _, k0, k1⟩ := (HRW'.out.kept hKv).fd y (by rw [← HM.out]; exact hym)
          subst hA2
          subst hA3
          obtain ⟨fd, hfd⟩ : ∃ fd, fd = fs.getD y default := ⟨_, rfl⟩
          rw [← hfd] at f0 f1 k0 k1
          obtain ⟨fn, ft⟩ := fd
          simp only at f0 f1 k0 k1
          have HCC := Lib.hid c1'
          have HDD := Lib.hid d1'
          clear hfd c1' d1' hKv
          go_wp2_with fail
          go_quiet (fail)
          go_wp2_with fail
          rw [wrap_inc hym HMM.out]
          exact ⟨⟨y + 1, by omega, rfl, ⟨hb.os, hb.tape, hb.output, hb.size, hb.block⟩⟩, by simp [intOf]; omega⟩
        · have hym2 : y = m := by omega
          subst hym2
          clear c1' d1'
          go_wp2_with fail
          rw [wrap_inc hlt hn]
          exact ⟨⟨k + 1, by omega, rfl, hB2.trans (hb.mono hB2.size)⟩, by simp [intOf]; omega⟩
    · go_wp2_with fail
      go_ret
      exact ⟨rfl, hB⟩

end Go.Proofs.Ytkableklofokdaa
