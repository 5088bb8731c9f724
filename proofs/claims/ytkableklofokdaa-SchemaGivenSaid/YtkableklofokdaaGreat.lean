/- The walks of Great, and of Same at equal templates. -/
import Derived.Test.YtkableklofokdaaList
set_option linter.unusedSimpArgs false
set_option linter.unusedVariables false
namespace Go.Proofs.Ytkableklofokdaa
open Go Go.RowKit Go.Maps Go.WideMaps

/-- What Great has counted, of templates so far. -/
def Counted (ts : List Tm) (n k a : Nat) : Prop := n ≤ a ∧ a ≤ n + 9000 ∧ ∀ t ∈ ts.take k, min t.s.length 3000 ≤ a

theorem wrap_inc {y m : Nat} (h : y < m) (hm : m ≤ maxLen) : RowKit.wrap64 ((y : Int) + 1) = ((y + 1 : Nat) : Int) := by
  rw [← Go.IntWalk.i64_left, Go.IntWalk.i64_in _ (by unfold maxLen at hm; omega)]; simp
theorem wrap_add {a b : Nat} (h : a < 1000000) (hm : b < 1000000) : RowKit.wrap64 ((a : Int) + (b : Int)) = ((a + b : Nat) : Int) := by
  rw [← Go.IntWalk.i64_left, Go.IntWalk.i64_in _ (by omega)]; simp

theorem counted_next {ts : List Tm} {n k a : Nat} {s : ByteArray} {fs : List Fd} {p q m b : Nat} (h : Counted ts n k a) (ht : ts.take (k + 1) = ts.take k ++ [⟨s, fs⟩]) (ha : a < 3000) (hp : p = min m 3000) (hm : m = fs.length) (hq : q ≤ 3000) (hb : a + p + q ≤ b ∧ (b ≤ a + p + q ∨ b < 6000)) : Counted ts n (k + 1) b := by
  obtain ⟨h1, h2, h3⟩ := h
  refine ⟨by omega, by omega, fun t hT => ?_⟩
  rw [ht, List.mem_append] at hT
  rcases hT with hT | hT
  · have := h3 t hT; omega
  · simp at hT; subst hT; simp only; omega

set_option maxRecDepth 8000 in
theorem great_calls (v : Value) (ts : List Tm) (lo hi : Nat) (w : World) (h : RdT lo hi w v ts) (hhi : hi ≤ w.heap.size) (hn : ts.length ≤ maxLen) (hsz : ∀ t ∈ ts, t.n.size ≤ maxLen ∧ t.s.length ≤ maxLen ∧ ∀ f ∈ t.s, f.n.size ≤ maxLen) :
    Calls Try.prog 9 #[v] w fun e w' => (∃ b, e = .returned (.bool b) ∧ (b = false → ts.length < 3000 ∧ ∀ t ∈ ts, t.s.length < 3000)) ∧ Below w.heap.size w w' := by
  obtain ⟨A, c, vs, rfl, hc, hr, hvs⟩ := h
  obtain ⟨n, hnn⟩ : ∃ n, n = ts.length := ⟨_, rfl⟩
  rw [← hnn] at hc hn ⊢
  have HN := Lib.hid hnn
  have HR := Lib.hid hr
  have HV := Lib.hid hvs
  have HS := Lib.hid hsz
  clear hnn hr hvs hsz
  go_enter Try.func9, Try.ntmps9
  go_wp2_with fail
  go_loopw [3, 4] (fun x i wr => ∃ k a : Nat, k ≤ n ∧ i = .int .i64 k ∧ x = .int .i64 a ∧ Counted ts n k a ∧ Below w.heap.size w wr) (fun _ i _ => n - (intOf i).toNat)
  case atStart => exact ⟨0, n, by omega, rfl, rfl, ⟨by omega, by omega, by simp⟩, Below.refl _ _⟩
  case round =>
    obtain ⟨k, a, hk, rfl, rfl, hC, hB⟩ := hrel
    by_cases hlt : k < n
    · by_cases hax : a < 3000
      · have hKp : Kept lo hi w wr := Kept.of_below hB lo hhi
        obtain ⟨ad, hA, _, _, c0, c1⟩ := (HR.out.kept hKp).tm k (by rw [HV.out.1, ← HN.out]; exact hlt)
        subst hA
        obtain ⟨hname, hslots⟩ := (HV.out.kept hKp).2 k (by rw [← HN.out]; exact hlt)
        have HT := takeT_snoc ts k (by rw [← HN.out]; exact hlt)
        have hfl := HS.out (ts.getD k default) (by rw [List.getD_eq_getElem?_getD, List.getElem?_eq_getElem (by rw [← HN.out]; exact hlt)]; simp)
        rw [hname] at c0
        obtain ⟨s, hs⟩ : ∃ s, s = (ts.getD k default).n := ⟨_, rfl⟩
        obtain ⟨fs, hfs⟩ : ∃ fs, fs = (ts.getD k default).s := ⟨_, rfl⟩
        have hte : ts.getD k default = ⟨s, fs⟩ := by rw [hs, hfs]
        rw [hte] at HT hfl
        rw [← hfs] at hslots
        rw [← hs] at c0
        obtain ⟨A2, c2, hsv2, hc2, hr2⟩ := hslots
        rw [hsv2] at c1
        simp only at hfl
        obtain ⟨m, hm⟩ : ∃ m, m = fs.length := ⟨_, rfl⟩
        rw [← hm] at c1 hc2 hfl
        have HTT := Lib.hid HT
        have HM := Lib.hid hm
        have HR2 := Lib.hid hr2
        have hsm := hfl.1
        have hmm := hfl.2.1
        have HFL := Lib.hid hfl.2.2
        have hd3 : decide ((a : Int) < 3000) = true := by simp; omega
        have HAX := Lib.hid hax
        obtain ⟨p, hp⟩ : ∃ p : Nat, p = min m 3000 := ⟨_, rfl⟩
        obtain ⟨q, hq⟩ : ∃ q : Nat, q = min s.size 3000 := ⟨_, rfl⟩
        have hp3 : p ≤ 3000 := by omega
        have hq3 : q ≤ 3000 := by omega
        have hif1 : (if (3000 : Int) < (m : Int) then (3000 : Int) else (m : Int)) = (p : Int) := by split <;> omega
        have hif2 : (if (3000 : Int) < (s.size : Int) then (3000 : Int) else (s.size : Int)) = (q : Int) := by split <;> omega
        have HP := Lib.hid hp
        have HQ := Lib.hid hq
        have HSM := Lib.hid hsm
        have HMM := Lib.hid hmm
        have HP3 := Lib.hid hp3
        have HQ3 := Lib.hid hq3
        clear hname HT hs hfs hte hsv2 hfl hm hr2 hax hp hq hsm hmm hp3 hq3
        go_wp2_with fail
        go_quiet (fail)
        have hw : RowKit.wrap64 (RowKit.wrap64 ((a : Int) + (p : Int)) + (q : Int)) = ((a + p + q : Nat) : Int) := by
          have h1 := HP3.out; have h2 := HQ3.out; have h3 := HAX.out
          rw [← Go.IntWalk.i64_left, ← Go.IntWalk.i64_left, Go.IntWalk.i64_in ((a : Int) + (p : Int)) (by omega), Go.IntWalk.i64_in _ (by omega)]
          simp
        rw [hw]
        have hB2 : Below w.heap.size w (wr.drewN nq) := ⟨hB.os, hB.tape, hB.output, hB.size, hB.block⟩
        have HRW : Hid (RdC lo hi (wr.drewN nq) A2 (cellsF fs)) := Lib.hid (HR2.out.kept (fun _ _ _ => rfl))
        have c1' : (wr.drewN nq).cell? ⟨(ad.add (k * 2)).block, (ad.add (k * 2)).off + 1, none⟩ = some (.slice A2 m c2) := c1
        clear c0 c1 hif1 hif2 HR2 hKp hw hd3
        generalize hW2 : wr.drewN nq = W2
        rw [hW2] at HRW hB2 c1'
        clear hW2
        have HC := Lib.hid hC
        clear hC
        go_wp2_with fail
        go_loop [3, 5] (fun x j => ∃ y b : Nat, y ≤ m ∧ j = .int .i64 y ∧ x = .int .i64 b ∧ Hid (a + p + q ≤ b ∧ (b ≤ a + p + q ∨ b < 6000))) (fun _ j => m - (intOf j).toNat)
        case atStart => exact ⟨0, a + p + q, by omega, rfl, rfl, Lib.hid ⟨by omega, by omega⟩⟩
        case round =>
          obtain ⟨y, b, hy, rfl, rfl, hb⟩ := hrel
          by_cases hym : y < m
          · by_cases hbx : b < 3000
            · obtain ⟨ad2, hA2, _, _, f0, f1⟩ := HRW.out.fd y (by rw [← HM.out]; exact hym)
              subst hA2
              have hd3 : decide ((b : Int) < 3000) = true := by simp; omega
              obtain ⟨nm, hnm⟩ : ∃ nm, nm = (fs.getD y default).n := ⟨_, rfl⟩
              rw [← hnm] at f0
              obtain ⟨q2, hq2⟩ : ∃ q2 : Nat, q2 = min nm.size 3000 := ⟨_, rfl⟩
              have hif2 : (if (3000 : Int) < (nm.size : Int) then (3000 : Int) else (nm.size : Int)) = (q2 : Int) := by split <;> omega
              have HBX := Lib.hid hbx
              have HQ2 : Hid (q2 ≤ 3000) := Lib.hid (by omega)
              clear hbx hnm hq2 f1
              go_wp2_with fail
              rw [wrap_inc hym HMM.out, wrap_add (by have := HBX.out; omega) (by have := HQ2.out; omega)]
              exact ⟨⟨y + 1, b + q2, by omega, rfl, rfl, Lib.hid (by have h1 := hb.out; have h2 := HBX.out; have h3 := HQ2.out; omega)⟩, by simp [intOf]; omega⟩
            · have hd3 : decide ((b : Int) < 3000) = false := by simp; omega
              have HBX := Lib.hid hbx
              clear hbx
              go_wp2_with fail
              rw [wrap_inc hlt hn]
              exact ⟨⟨k + 1, b, by omega, rfl, rfl, counted_next HC.out HTT.out HAX.out HP.out HM.out HQ3.out hb.out, hB2⟩, by simp [intOf]; omega⟩
          · have hym2 : y = m := by omega
            subst hym2
            go_wp2_with fail
            rw [wrap_inc hlt hn]
            exact ⟨⟨k + 1, b, by omega, rfl, rfl, counted_next HC.out HTT.out HAX.out HP.out HM.out HQ3.out hb.out, hB2⟩, by simp [intOf]; omega⟩
      · have hd3 : decide ((a : Int) < 3000) = false := by simp; omega
        have HAX := Lib.hid hax
        clear hax
        go_wp2_with fail
        have hd4 : decide ((3000 : Int) ≤ (a : Int)) = true := by have := HAX.out; simp; omega
        go_ret
        exact ⟨⟨_, rfl, fun e => absurd e (by rw [hd4]; simp)⟩, hB⟩
    · have hkn : k = n := by omega
      subst hkn
      have HC := Lib.hid hC
      clear hC
      go_wp2_with fail
      go_ret
      refine ⟨⟨_, rfl, fun e => ?_⟩, hB⟩
      have h1 : a < 3000 := by simp at e; omega
      obtain ⟨h2, h3, h4⟩ := HC.out
      rw [HN.out, List.take_length] at h4
      exact ⟨by omega, fun t ht => by have := h4 t ht; omega⟩

end Go.Proofs.Ytkableklofokdaa
